/- 'append([]T{}, y...)': copies of bytes and of shares that a call makes; stores into them. -/
import Derived.Test.YtpghdiklleedaaaBf
set_option linter.all false
namespace Go.Proofs.Ytpghdiklleedaaa
open Go.RowKit Go.Fen Gf
set_option maxHeartbeats 400000

theorem adr_ne {g g' i j : Nat} (h : g ≠ g' ∨ i ≠ j) : (⟨g, i, none⟩ : Addr) ≠ ⟨g', j, none⟩ := by
  intro e
  simp only [Addr.mk.injEq, and_true] at e
  rcases h with h | h
  · exact h e.1
  · exact h e.2

/-- block g holds the bytes l, not frozen -/
def CsB (w : World) (g : Nat) (l : List (BitVec 8)) : Prop := ∀ j, j < l.length → w.cell? ⟨g, j, none⟩ = some (.int .u8 (l.getD j 0#8).toNat) ∧ w.frozen? ⟨g, j, none⟩ = false
theorem CsB.same {w w' : World} {g : Nat} {l : List (BitVec 8)} (h : CsB w g l) (e : w'.heap[g]? = w.heap[g]?) : CsB w' g l := fun j hj =>
  ⟨(World.cell?_of_block (a := ⟨g, j, none⟩) e).trans (h j hj).1, (World.frozen?_of_block (a := ⟨g, j, none⟩) e).trans (h j hj).2⟩
theorem CsB.below {w w' : World} {B g : Nat} {l : List (BitVec 8)} (h : CsB w g l) (hb : Below B w w') (hg : g < B) : CsB w' g l := h.same (hb.block g hg)
theorem CsB.bs {w : World} {g : Nat} {l : List (BitVec 8)} (h : CsB w g l) : Bs w (some ⟨g, 0, none⟩) l := .inr ⟨g, 0, rfl, fun i hi => by rw [Nat.zero_add]; exact (h i hi).1⟩
theorem CsB.set {w : World} {g : Nat} {l : List (BitVec 8)} (h : CsB w g l) (i : Nat) (hi : i < l.length) (x : BitVec 8) : CsB (w.setCell ⟨g, i, none⟩ (.int .u8 x.toNat)) g (l.set i x) := by
  intro j hj
  rw [List.length_set] at hj
  refine ⟨?_, by rw [World.frozen?_setCell]; exact (h j hj).2⟩
  by_cases e : i = j
  · subst e
    rw [World.cell?_setCell_same w ⟨g, i, none⟩ _ (h i hi).1]
    simp [List.getD, hi]
  · rw [World.cell?_setCell_other w ⟨g, i, none⟩ ⟨g, j, none⟩ _ (adr_ne (.inr e)), (h j hj).1]
    simp [List.getD, List.getElem?_set, e]

/-- block g holds the shares L, not frozen -/
def CsS (w : World) (g : Nat) (L : List Shr) : Prop := ∀ j, j < L.length → (w.cell? ⟨g, j * 2, none⟩ = some (.int .u8 (L.getD j zs).x.toNat) ∧ w.cell? ⟨g, j * 2 + 1, none⟩ = some (L.getD j zs).v) ∧ w.frozen? ⟨g, j * 2, none⟩ = false ∧ w.frozen? ⟨g, j * 2 + 1, none⟩ = false
theorem CsS.same {w w' : World} {g : Nat} {L : List Shr} (h : CsS w g L) (e : w'.heap[g]? = w.heap[g]?) : CsS w' g L := fun j hj =>
  ⟨⟨(World.cell?_of_block (a := ⟨g, j * 2, none⟩) e).trans (h j hj).1.1, (World.cell?_of_block (a := ⟨g, j * 2 + 1, none⟩) e).trans (h j hj).1.2⟩, (World.frozen?_of_block (a := ⟨g, j * 2, none⟩) e).trans (h j hj).2.1, (World.frozen?_of_block (a := ⟨g, j * 2 + 1, none⟩) e).trans (h j hj).2.2⟩
theorem CsS.below {w w' : World} {B g : Nat} {L : List Shr} (h : CsS w g L) (hb : Below B w w') (hg : g < B) : CsS w' g L := h.same (hb.block g hg)
theorem CsS.there {w : World} {g : Nat} {L : List Shr} (h : CsS w g L) (k : Nat) (hk : k < L.length) : w.there g (k * 2) 2 := by
  intro j hj
  match j, hj with
  | 0, _ => exact ⟨by rw [Nat.add_zero, (h k hk).1.1]; rfl, (h k hk).2.1⟩
  | 1, _ => exact ⟨by rw [(h k hk).1.2]; rfl, (h k hk).2.2⟩
theorem setCells_block (w : World) (g o : Nat) (u v : Value) (k : Nat) (h : k ≠ g) : (w.setCells g o [u, v]).heap[k]? = w.heap[k]? := by
  show ((w.setCell ⟨g, o, none⟩ u).setCell ⟨g, o + 1, none⟩ v).heap[k]? = _
  rw [Below.heap_setCell _ _ _ _ h, Below.heap_setCell _ _ _ _ h]
theorem CsS.other {w : World} {g g' : Nat} {L : List Shr} (h : CsS w g L) (hg : g ≠ g') (o : Nat) (u v : Value) : CsS (w.setCells g' o [u, v]) g L := h.same (setCells_block w g' o u v g hg)
theorem CsS.set {w : World} {g : Nat} {L : List Shr} (h : CsS w g L) (k : Nat) (hk : k < L.length) (s : Shr) : CsS (w.setCells g (k * 2) [.int .u8 s.x.toNat, s.v]) g (L.set k s) := by
  intro j hj
  rw [List.length_set] at hj
  show (((w.setCell ⟨g, k * 2, none⟩ (.int .u8 s.x.toNat)).setCell ⟨g, k * 2 + 1, none⟩ s.v).cell? _ = _ ∧ ((w.setCell ⟨g, k * 2, none⟩ (.int .u8 s.x.toNat)).setCell ⟨g, k * 2 + 1, none⟩ s.v).cell? _ = _) ∧
    ((w.setCell ⟨g, k * 2, none⟩ (.int .u8 s.x.toNat)).setCell ⟨g, k * 2 + 1, none⟩ s.v).frozen? _ = false ∧ ((w.setCell ⟨g, k * 2, none⟩ (.int .u8 s.x.toNat)).setCell ⟨g, k * 2 + 1, none⟩ s.v).frozen? _ = false
  simp only [World.frozen?_setCell]
  refine ⟨?_, (h j hj).2⟩
  by_cases e : k = j
  · subst e
    have h0 := World.cell?_setCell_same w ⟨g, k * 2, none⟩ (.int .u8 s.x.toNat) (h k hk).1.1
    have h1 : (w.setCell ⟨g, k * 2, none⟩ (.int .u8 s.x.toNat)).cell? ⟨g, k * 2 + 1, none⟩ = _ := (World.cell?_setCell_other w ⟨g, k * 2, none⟩ ⟨g, k * 2 + 1, none⟩ _ (adr_ne (.inr (by omega)))).trans (h k hk).1.2
    constructor
    · rw [World.cell?_setCell_other _ ⟨g, k * 2 + 1, none⟩ ⟨g, k * 2, none⟩ _ (adr_ne (.inr (by omega))), h0]
      simp [List.getD, hk]
    · rw [World.cell?_setCell_same _ ⟨g, k * 2 + 1, none⟩ _ h1]
      simp [List.getD, hk]
  · have e1 : (L.set k s).getD j zs = L.getD j zs := by simp [List.getD, List.getElem?_set, e]
    rw [e1]
    constructor
    · rw [World.cell?_setCell_other _ ⟨g, k * 2 + 1, none⟩ ⟨g, j * 2, none⟩ _ (adr_ne (.inr (by omega))), World.cell?_setCell_other _ ⟨g, k * 2, none⟩ ⟨g, j * 2, none⟩ _ (adr_ne (.inr (by omega)))]
      exact (h j hj).1.1
    · rw [World.cell?_setCell_other _ ⟨g, k * 2 + 1, none⟩ ⟨g, j * 2 + 1, none⟩ _ (adr_ne (.inr (by omega))), World.cell?_setCell_other _ ⟨g, k * 2, none⟩ ⟨g, j * 2 + 1, none⟩ _ (adr_ne (.inr (by omega)))]
      exact (h j hj).1.2
theorem CsS.shs {w : World} {g : Nat} {L : List Shr} (h : CsS w g L) (hs : ∀ i, i < L.length → SV w (L.getD i zs).v (L.getD i zs).b) : Shs w (some ⟨g, 0, none⟩) L :=
  ⟨.inr ⟨g, 0, rfl, fun i hi => by rw [Nat.zero_add]; exact (h i hi).1⟩, hs⟩

section
variable {ops : Array Oper} {rest : List Oper} {o : Oper} {a : Act} {Q : Exit → Act → World → Prop}

theorem copyB (w0 w1 : World) (g0 : Nat) (hg0 : g0 = w0.heap.size) (hw1 : w1 = w0.alloc (.cells #[] 5)) (ax : Option Addr) (l : List (BitVec 8)) (c : Nat) (hb : Bs w0 ax l) (hpos : 0 < l.length) (hlen : l.length ≤ 1000000) (ty : TypeId) :
    ∃ g cap w', (Builtin.append_ #[27, 27] ty #[.slice (some ⟨g0, 0, none⟩) 0 0, .slice ax l.length c]).run Try.prog w1 = .ok (.slice (some ⟨g, 0, none⟩) l.length cap) w' ∧ l.length ≤ cap ∧ w0.heap.size ≤ g ∧ g < w'.heap.size ∧ Below w0.heap.size w0 w' ∧ CsB w' g l := by
  subst hg0
  subst hw1
  obtain ⟨i, hi, hzz⟩ := Option.map_eq_some_iff.1 Try.info5
  simp only [Prod.mk.injEq] at hzz
  rcases hb with h | ⟨gx, ox, rfl, hc⟩
  · rw [h] at hpos; simp at hpos
  have hbel : Below w0.heap.size w0 (w0.alloc (.cells #[] 5)) := (Below.refl _ _).alloc (Nat.le_refl _) _
  obtain ⟨g, cap, w', hr, hown, hg, hat, hlt⟩ := run_append_lies (P := Try.prog) (w0.alloc (.cells #[] 5)) 27 ty w0.heap.size 5 i _ 1 1 Try.underlying27 hi hzz.1 hzz.2.1 hzz.2.2 rfl (by decide) _ 0 [] (World.ownsRow_made w0 #[] 0 (Nat.le_refl _) (by decide) rfl)
    ⟨gx, ox, none⟩ l.length c (bvals l) (by simp [bvals]) (fun j u hj => by
      have hj' : j < l.length := by
        by_cases h : j < l.length
        · exact h
        · rw [List.getElem?_eq_none (by simp [bvals]; omega)] at hj; cases hj
      rw [get_bvals l j hj'] at hj
      rw [← Option.some.inj hj]
      have hadd : (⟨gx, ox, none⟩ : Addr).add j = ⟨gx, ox + j, none⟩ := by unfold Addr.add; split <;> simp_all
      rw [hadd]
      exact (hbel.cell (p := ⟨gx, ox + j, none⟩) (block_lt_of_cell (a := ⟨gx, ox + j, none⟩) (hc j hj'))).trans (hc j hj'))
    (fun u hu => by simp [bvals] at hu; obtain ⟨b, _, rfl⟩ := hu; rfl) hpos (by unfold maxLen; omega) (by omega) (by simp) _ rfl
  rw [Nat.zero_add] at hr hown
  rw [List.nil_append] at hown
  have hcap : l.length ≤ cap := by
    rcases hown.2 with ⟨h, _⟩ | ⟨g', cap', cur, hv, _, _, hnc, _⟩
    · cases h
    · have : cap = cap' := by simpa using (Value.slice.inj hv).2.2
      omega
  refine ⟨g, cap, w', hr, hcap, (hown.lt g rfl).1, hlt, hbel.grown hg (by simp) (fun k hk => by rw [← Option.some.inj hk]; exact Nat.le_refl _), fun j hj => ⟨?_, hown.frozenAt j⟩⟩
  rw [hown.cellAt j (by omega)]
  exact get_bvals l j hj
theorem copyS (w0 w1 : World) (g0 : Nat) (hg0 : g0 = w0.heap.size) (hw1 : w1 = w0.alloc (.cells #[] 33)) (gx : Nat) (L : List Shr) (c : Nat) (hb : Shs w0 (some ⟨gx, 0, none⟩) L) (hpos : 0 < L.length) (hlen : L.length ≤ 1000) (ty : TypeId) :
    ∃ g cap w', (Builtin.append_ #[31, 31] ty #[.slice (some ⟨g0, 0, none⟩) 0 0, .slice (some ⟨gx, 0, none⟩) L.length c]).run Try.prog w1 = .ok (.slice (some ⟨g, 0, none⟩) L.length cap) w' ∧ L.length ≤ cap ∧ w0.heap.size ≤ g ∧ g < w'.heap.size ∧ Below w0.heap.size w0 w' ∧ CsS w' g L := by
  subst hg0
  subst hw1
  obtain ⟨i, hi, hzz⟩ := Option.map_eq_some_iff.1 Try.info33
  simp only [Prod.mk.injEq] at hzz
  rcases hb.cells with h | ⟨g', o', ea, hc⟩
  · rw [h] at hpos; simp at hpos
  obtain ⟨rfl, rfl⟩ : gx = g' ∧ 0 = o' := by simpa using Option.some.inj ea
  have hbel : Below w0.heap.size w0 (w0.alloc (.cells #[] 33)) := (Below.refl _ _).alloc (Nat.le_refl _) _
  obtain ⟨g, cap, w', hr, hown, hg, hat, hlt⟩ := run_append_lies (P := Try.prog) (w0.alloc (.cells #[] 33)) 31 ty w0.heap.size 33 i _ 2 32 Try.underlying31 hi hzz.1 hzz.2.1 hzz.2.2 rfl (by decide) _ 0 [] (World.ownsRow_made w0 #[] 0 (Nat.le_refl _) (by decide) rfl)
    ⟨gx, 0, none⟩ L.length c (scells L) (length_scells L) (fun j u hj => by
      have hj' : j / 2 < L.length := by
        by_cases h : j < (scells L).length
        · rw [length_scells] at h; omega
        · rw [List.getElem?_eq_none (by omega)] at hj; cases hj
      have hadd : (⟨gx, 0, none⟩ : Addr).add j = ⟨gx, j, none⟩ := by unfold Addr.add; split <;> simp_all
      rw [hadd]
      have hcc := hc (j / 2) hj'
      rw [Nat.zero_add] at hcc
      have hx := scells_x L (j / 2) hj'
      have hv := scells_v L (j / 2) hj'
      have hlt := block_lt_of_cell (a := ⟨gx, j / 2 * 2, none⟩) hcc.1
      have hcell : (w0.alloc (.cells #[] 33)).cell? ⟨gx, j, none⟩ = w0.cell? ⟨gx, j, none⟩ := hbel.cell (p := ⟨gx, j, none⟩) hlt
      rw [hcell]
      rcases Nat.mod_two_eq_zero_or_one j with e | e
      · rw [show j / 2 * 2 = j by omega] at hx hcc
        rw [hj] at hx
        rw [Option.some.inj hx]
        exact hcc.1
      · rw [show j / 2 * 2 + 1 = j by omega] at hv hcc
        rw [hj] at hv
        rw [Option.some.inj hv]
        exact hcc.2)
    (one_scells L (fun s hs => by
      obtain ⟨k, hk, e⟩ := List.getElem_of_mem hs
      have e2 : s = L.getD k zs := by simp [List.getD, hk, e]
      rw [e2]
      exact (hb.svs k hk).one)) hpos (by unfold maxLen; omega) (by omega) (by simp) _ rfl
  rw [Nat.zero_add] at hr hown
  rw [List.nil_append] at hown
  have hcap : L.length ≤ cap := by
    rcases hown.2 with ⟨h, _⟩ | ⟨g', cap', cur, hv, _, _, hnc, _⟩
    · cases h
    · have : cap = cap' := by simpa using (Value.slice.inj hv).2.2
      omega
  refine ⟨g, cap, w', hr, hcap, (hown.lt g rfl).1, hlt, hbel.grown hg (by simp) (fun k hk => by rw [← Option.some.inj hk]; exact Nat.le_refl _), fun j hj => ⟨⟨?_, ?_⟩, hown.frozenAt _, hown.frozenAt _⟩⟩
  · rw [hown.cellAt _ (by omega)]
    exact scells_x L j hj
  · rw [hown.cellAt _ (by omega)]
    exact scells_v L j hj
theorem wp_append_run {P : Program} {w w' : World} {K : Act → World → Prop} {v r : Value} {vx : Value} {t : TypeId} (s x : Operand) (ho : o.op = .call { callee := .builtin .append, args := #[s, x], argTypes := #[t, t] })
    (hs : a.eval s = v) (hx : a.eval x = vx) (hr : (Builtin.append_ #[t, t] o.type #[v, vx]).run P w = .ok r w') (h : K (a.put o.dst r) w') : o.wp P a w K Q := by
  unfold Oper.wp execOp
  simp only [ho, resolve, invoke, builtin, Sem.run_bind, Sem.run_pure, Result.andThen_ok, List.map_toArray, List.map_cons, List.map_nil, hs, hx, hr]
  exact h
theorem wpList_copyB (hgd : o.guard = none) (s x : Operand) (ho : o.op = .call { callee := .builtin .append, args := #[s, x], argTypes := #[27, 27] })
    (w0 w1 : World) (g0 : Nat) (hg0 : g0 = w0.heap.size) (hw1 : w1 = w0.alloc (.cells #[] 5)) (ax : Option Addr) (l : List (BitVec 8)) (c n : Nat) (hn : n = l.length) (hb : Bs w0 ax l) (hpos : 0 < n) (hlen : n ≤ 1000000)
    (hs : a.eval s = .slice (some ⟨g0, 0, none⟩) 0 0) (hx : a.eval x = .slice ax n c)
    (h : ∀ g cap w', n ≤ cap → w0.heap.size ≤ g → g < w'.heap.size → Below w0.heap.size w0 w' → CsB w' g l → wpList Try.prog ops Q rest (a.put o.dst (.slice (some ⟨g, 0, none⟩) n cap)) w') : wpList Try.prog ops Q (o :: rest) a w1 := by
  subst hn
  obtain ⟨g, cap, w', hr, h1, h2, h3, h4, h5⟩ := copyB w0 w1 g0 hg0 hw1 ax l c hb hpos hlen o.type
  exact wpList_plain hgd fun K hK => wp_append_run s x ho hs hx hr (hK _ _ (h g cap w' h1 h2 h3 h4 h5))
theorem step_copyB {K : Act → World → Prop} {E : Prop} (hgd : o.guard = none) (s x : Operand) (ho : o.op = .call { callee := .builtin .append, args := #[s, x], argTypes := #[27, 27] })
    (w0 w1 : World) (g0 : Nat) (hg0 : g0 = w0.heap.size) (hw1 : w1 = w0.alloc (.cells #[] 5)) (ax : Option Addr) (l : List (BitVec 8)) (c n : Nat) (hn : n = l.length) (hb : Bs w0 ax l) (hpos : 0 < n) (hlen : n ≤ 1000000)
    (hs : a.eval s = .slice (some ⟨g0, 0, none⟩) 0 0) (hx : a.eval x = .slice ax n c)
    (h : ∀ g cap w', n ≤ cap → w0.heap.size ≤ g → g < w'.heap.size → Below w0.heap.size w0 w' → w'.ownsRow w0.heap.size 5 1 (.slice (some ⟨g, 0, none⟩) n cap) n (bvals l) → K (a.put o.dst (.slice (some ⟨g, 0, none⟩) n cap)) w') : if Region.wanted o (yielded ops a.tmps) = true then Oper.wp Try.prog o a w1 K Q else E := by
  subst hn
  subst hg0
  subst hw1
  obtain ⟨i, hi, hzz⟩ := Option.map_eq_some_iff.1 Try.info5
  simp only [Prod.mk.injEq] at hzz
  rcases hb with h0 | ⟨gx, ox, rfl, hc⟩
  · rw [h0] at hpos; simp at hpos
  have hbel : Below w0.heap.size w0 (w0.alloc (.cells #[] 5)) := (Below.refl _ _).alloc (Nat.le_refl _) _
  refine step_append_lies (P := Try.prog) (w0.alloc (.cells #[] 5)) hgd s x 27 ho w0.heap.size 5 i _ 1 1 Try.underlying27 hi hzz.1 hzz.2.1 hzz.2.2 rfl (by decide) _ 0 [] hs (World.ownsRow_made w0 #[] 0 (Nat.le_refl _) (by decide) rfl)
    ⟨gx, ox, none⟩ l.length c (bvals l) hx (by simp [bvals]) (fun j u hj => by
      have hj' : j < l.length := by
        by_cases h : j < l.length
        · exact h
        · rw [List.getElem?_eq_none (by simp [bvals]; omega)] at hj; cases hj
      rw [get_bvals l j hj'] at hj
      rw [← Option.some.inj hj]
      have hadd : (⟨gx, ox, none⟩ : Addr).add j = ⟨gx, ox + j, none⟩ := by unfold Addr.add; split <;> simp_all
      rw [hadd]
      exact (hbel.cell (p := ⟨gx, ox + j, none⟩) (block_lt_of_cell (a := ⟨gx, ox + j, none⟩) (hc j hj'))).trans (hc j hj'))
    (fun u hu => by simp [bvals] at hu; obtain ⟨b, _, rfl⟩ := hu; rfl) hpos (by unfold maxLen; omega) (by omega) (by simp) _ rfl (fun g cap w' hown hg hat hlt => ?_)
  rw [Nat.zero_add] at hown ⊢
  rw [List.nil_append] at hown
  have hcap : l.length ≤ cap := by
    rcases hown.2 with ⟨h, _⟩ | ⟨g', cap', cur, hv, _, _, hnc, _⟩
    · cases h
    · have : cap = cap' := by simpa using (Value.slice.inj hv).2.2
      omega
  exact h g cap w' hcap (hown.lt g rfl).1 hlt (hbel.grown hg (by simp) (fun k hk => by rw [← Option.some.inj hk]; exact Nat.le_refl _)) hown
theorem wpList_copyS (hgd : o.guard = none) (s x : Operand) (ho : o.op = .call { callee := .builtin .append, args := #[s, x], argTypes := #[31, 31] })
    (w0 w1 : World) (g0 : Nat) (hg0 : g0 = w0.heap.size) (hw1 : w1 = w0.alloc (.cells #[] 33)) (gx : Nat) (L : List Shr) (c n : Nat) (hn : n = L.length) (hb : Shs w0 (some ⟨gx, 0, none⟩) L) (hpos : 0 < n) (hlen : n ≤ 1000)
    (hs : a.eval s = .slice (some ⟨g0, 0, none⟩) 0 0) (hx : a.eval x = .slice (some ⟨gx, 0, none⟩) n c)
    (h : ∀ g cap w', n ≤ cap → w0.heap.size ≤ g → g < w'.heap.size → Below w0.heap.size w0 w' → CsS w' g L → wpList Try.prog ops Q rest (a.put o.dst (.slice (some ⟨g, 0, none⟩) n cap)) w') : wpList Try.prog ops Q (o :: rest) a w1 := by
  subst hn
  obtain ⟨g, cap, w', hr, h1, h2, h3, h4, h5⟩ := copyS w0 w1 g0 hg0 hw1 gx L c hb hpos hlen o.type
  exact wpList_plain hgd fun K hK => wp_append_run s x ho hs hx hr (hK _ _ (h g cap w' h1 h2 h3 h4 h5))
end
end Go.Proofs.Ytpghdiklleedaaa
