/- The contract of ordered. -/
import Derived.Test.YtpghdiklleedaaaG
set_option linter.all false
namespace Go.Proofs.Ytpghdiklleedaaa
open Go.RowKit Go.Fen Gf
set_option linter.unusedVariables false
set_option linter.unusedSimpArgs false
set_option maxHeartbeats 400000

abbrev Dat := List (BitVec 8 × List (BitVec 8))
def dX (D : Dat) (k : Nat) : BitVec 8 := (D.getD k (0#8, [])).1
def dB (D : Dat) (k : Nat) : List (BitVec 8) := (D.getD k (0#8, [])).2
theorem getD_dat (L : List Shr) (k : Nat) : (dat L).getD k (0#8, []) = ((L.getD k zs).x, (L.getD k zs).b) := by
  simp only [dat, List.getD, List.getElem?_map]
  cases L[k]? <;> rfl
theorem dX_dat (L : List Shr) (k : Nat) : dX (dat L) k = (L.getD k zs).x := by rw [dX, getD_dat]
theorem dB_dat (L : List Shr) (k : Nat) : dB (dat L) k = (L.getD k zs).b := by rw [dB, getD_dat]
theorem length_dat (L : List Shr) : (dat L).length = L.length := by simp [dat]

/-- 256 zeros -/
@[irreducible] def z256 : List Int := List.replicate 256 0
theorem length_z256 : z256.length = 256 := by unfold z256; exact List.length_replicate
theorem getD_z256 (c : Nat) : z256.getD c 0 = 0 := by
  unfold z256
  rw [List.getD, List.getElem?_replicate]
  split <;> rfl
/-- where each point was met, after k shares (1 for the first one, 0 for none) -/
def atF (D : Dat) : Nat → List Int
  | 0 => z256
  | k + 1 => (atF D k).set (dX D k).toNat ((k : Int) + 1)
theorem length_atF (D : Dat) (k : Nat) : (atF D k).length = 256 := by
  induction k with
  | zero => exact length_z256
  | succ k ih => rw [atF, List.length_set, ih]
/-- share k is well-formed beside those before it -/
def okAt (D : Dat) (k : Nat) : Prop := dX D k ≠ 0#8 ∧ (atF D k).getD (dX D k).toNat 0 = 0 ∧ (dB D k).length = (dB D 0).length
instance (D : Dat) (k : Nat) : Decidable (okAt D k) := by unfold okAt; infer_instance
def well (D : Dat) : Bool := (List.range D.length).all fun k => decide (okAt D k)
theorem well_iff (D : Dat) : well D = true ↔ ∀ k, k < D.length → okAt D k := by
  simp [well]
theorem well_false (D : Dat) (k : Nat) (hk : k < D.length) (h : ¬ okAt D k) : well D = false := by
  cases hw : well D with
  | false => rfl
  | true => exact absurd ((well_iff D).1 hw k hk) h
theorem atF_bound (D : Dat) (k : Nat) (c : Nat) : 0 ≤ (atF D k).getD c 0 ∧ (atF D k).getD c 0 ≤ k := by
  induction k with
  | zero =>
    rw [atF, getD_z256]
    omega
  | succ k ih =>
    simp only [atF, List.getD, List.getElem?_set]
    split
    · split
      · simp; omega
      · simp; omega
    · simp only [List.getD] at ih
      omega

theorem Try.z67 : (Try.prog.info? 67).bind (·.zero) = some (.agg (icells z256)) := by unfold z256; kernel_rfl
theorem Try.n3 : (Try.prog.info? 3).map (·.size) = some 1 := by kernel_rfl
theorem Try.a3 (w : World) : (isAgg 3).run Try.prog w = .ok false w := by kernel_rfl
theorem Try.n67 : (Try.prog.info? 67).map (·.size) = some 256 := by kernel_rfl

theorem setRow_new (w : World) (z c : Array Value) (t : TypeId) (g : Nat) (hg : g = w.heap.size) : (w.alloc (.cells z t)).setRow g c = w.alloc (.cells c t) := by
  subst hg
  exact World.setRow_alloc_new _ _ _ _

/-- a list of shares that a call owns and appends to -/
def BufS (B : Nat) (v : Value) (M : List Shr) (W0 w : World) : Prop := w.ownsRow B 33 2 v M.length (scells M) ∧ Below B W0 w ∧ B ≤ w.heap.size
theorem BufS.grown {B : Nat} {v v' : Value} {M M' : List Shr} {W0 w w' : World} (h : BufS B v M W0 w) (ho : w'.ownsRow B 33 2 v' M'.length (scells M')) (hg : w.grownBy w' v.ownBlock) : BufS B v' M' W0 w' :=
  ⟨ho, h.2.1.grown hg h.2.2 (fun k hk => (h.1.lt k hk).1), Nat.le_trans h.2.2 hg.size⟩
theorem BufS.alloc {B : Nat} {v : Value} {M : List Shr} {W0 w : World} (h : BufS B v M W0 w) (o : Obj) : BufS B v M W0 (w.alloc o) :=
  ⟨owns_grown h.1 (World.grownBy_alloc w o none) (.inr rfl), h.2.1.alloc h.2.2 o, Nat.le_trans h.2.2 (by simp)⟩
theorem BufS.drewN {B : Nat} {v : Value} {M : List Shr} {W0 w : World} (h : BufS B v M W0 w) (q : Nat) : BufS B v M W0 (w.drewN q) := ⟨h.1, below_drewN h.2.1 q, h.2.2⟩
theorem BufS.call {B : Nat} {v : Value} {M : List Shr} {W0 w w' : World} (h : BufS B v M W0 w) (hb : Below w.heap.size w w') : BufS B v M W0 w' :=
  ⟨owns_below h.1 hb (Nat.le_refl _), h.2.1.trans (hb.mono h.2.2), Nat.le_trans h.2.2 hb.size⟩
theorem BufS.form {B : Nat} {v : Value} {M : List Shr} {W0 w : World} (h : BufS B v M W0 w) : ∃ a c, v = .slice a M.length c ∧ M.length ≤ c ∧
    (M = [] ∨ ∃ g, a = some ⟨g, 0, none⟩ ∧ B ≤ g ∧ g < w.heap.size ∧ ∀ i, i < M.length → w.cell? ⟨g, 0 + i * 2, none⟩ = some (.int .u8 (M.getD i zs).x.toNat) ∧ w.cell? ⟨g, 0 + i * 2 + 1, none⟩ = some (M.getD i zs).v) := by
  rcases h.1.2 with ⟨hv, h0⟩ | ⟨g, cap, cur, hv, hbg, hg, hnc, _⟩
  · exact ⟨none, 0, by rw [hv, h0], by omega, .inl (List.eq_nil_of_length_eq_zero h0)⟩
  · refine ⟨_, cap, hv, hnc, .inr ⟨g, rfl, hbg, (Array.getElem?_eq_some_iff.1 hg).1, fun i hi => ?_⟩⟩
    have ho := h.1
    rw [hv] at ho
    rw [Nat.zero_add]
    exact ⟨(ho.cellAt _ (by omega)).trans (scells_x M i hi), (ho.cellAt _ (by omega)).trans (scells_v M i hi)⟩
theorem Shs.of_buf {B : Nat} {v : Value} {M : List Shr} {W0 w : World} (h : BufS B v M W0 w) (hs : ∀ i, i < M.length → SV w (M.getD i zs).v (M.getD i zs).b) : ∃ a c, v = .slice a M.length c ∧ M.length ≤ c ∧ Shs w a M := by
  obtain ⟨a, c, hv, hc, hcells⟩ := h.form
  refine ⟨a, c, hv, hc, ⟨?_, hs⟩⟩
  rcases hcells with h1 | ⟨g, ha, _, _, hcc⟩
  · exact .inl h1
  · exact .inr ⟨g, 0, ha, hcc⟩
/-- 'out = append(out, s)' -/
theorem wpList_push2 {ops : Array Oper} {rest : List Oper} {o : Oper} {a : Act} {Q : Exit → Act → World → Prop} (hgd : o.guard = none) (s x : Operand)
    (ho : o.op = .call { callee := .builtin .append, args := #[s, x], argTypes := #[31, 31] })
    (B : Nat) (v : Value) (M : List Shr) (hs : a.eval s = v) (W0 w0 w1 : World) (t : Shr) (ht : t.v.oneCell' = true) (hw1 : w1 = w0.alloc (.cells #[.int .u8 t.x.toNat, t.v] 33)) (hb : BufS B v M W0 w0)
    (hx : a.eval x = .slice (some ⟨w0.heap.size, 0, none⟩) 1 1) (h63 : M.length ≤ 1000000)
    (h : ∀ v' w', BufS B v' (M ++ [t]) W0 w' → w1.grownBy w' v.ownBlock → wpList Try.prog ops Q rest (a.put o.dst v') w') : wpList Try.prog ops Q (o :: rest) a w1 := by
  obtain ⟨i, hi, hzz⟩ := Option.map_eq_some_iff.1 Try.info33
  simp only [Prod.mk.injEq] at hzz
  subst hw1
  have hb' := hb.alloc (.cells #[.int .u8 t.x.toNat, t.v] 33)
  refine wpList_append_own _ hgd s x 31 ho B 33 i _ 2 32 Try.underlying31 hi hzz.1 hzz.2.1 hzz.2.2 rfl (by decide) v M.length (scells M) hs hb'.1 ⟨w0.heap.size, 0, none⟩ 1 1 [.int .u8 t.x.toNat, t.v] hx rfl ?_ ?_ (by unfold maxLen; omega) (by omega) hb'.2.2 ?_
  · intro j y hj
    match j, hj with
    | 0, hj => simp at hj; subst hj; simp [Addr.add]
    | 1, hj => simp at hj; subst hj; simp [Addr.add]
    | (j + 2), hj => simp at hj
  · intro y hy
    simp at hy
    rcases hy with rfl | rfl
    · rfl
    · exact ht
  · intro v' w' ho' hg _
    refine h v' w' (hb'.grown ?_ hg) hg
    rw [scells_append]
    simpa [scells] using ho'

/-- the shares at the points below c -/
def sortU (L : List Shr) (at' : List Int) (c : Nat) : List Shr := (List.range c).filterMap fun d => if 0 < at'.getD d 0 then some (L.getD (at'.getD d 0 - 1).toNat zs) else none
def sortS (L : List Shr) : List Shr := sortU L (atF (dat L) L.length) 256
theorem sortU_hit (L : List Shr) (at' : List Int) (c : Nat) (h : 0 < at'.getD c 0) : sortU L at' (c + 1) = sortU L at' c ++ [L.getD (at'.getD c 0 - 1).toNat zs] := by
  simp only [sortU, List.range_succ, List.filterMap_append, List.filterMap_cons, List.filterMap_nil, if_pos h]
theorem sortU_miss (L : List Shr) (at' : List Int) (c : Nat) (h : ¬ 0 < at'.getD c 0) : sortU L at' (c + 1) = sortU L at' c := by
  simp only [sortU, List.range_succ, List.filterMap_append, List.filterMap_cons, List.filterMap_nil, if_neg h, List.append_nil]
theorem sortU_len (L : List Shr) (at' : List Int) (c : Nat) : (sortU L at' c).length ≤ c := by
  have := List.length_filterMap_le (fun d => if 0 < at'.getD d 0 then some (L.getD (at'.getD d 0 - 1).toNat zs) else none) (List.range c)
  simpa [sortU] using this
theorem sortU_mem (L : List Shr) (at' : List Int) (c : Nat) (hb : ∀ d, at'.getD d 0 ≤ L.length) (s : Shr) (hs : s ∈ sortU L at' c) : ∃ i, i < L.length ∧ s = L.getD i zs := by
  simp only [sortU, List.mem_filterMap] at hs
  obtain ⟨d, _, hd⟩ := hs
  split at hd
  · rename_i h
    refine ⟨(at'.getD d 0 - 1).toNat, ?_, by simpa using hd.symm⟩
    have := hb d
    omega
  · simp at hd
theorem getD_mem (M : List Shr) (i : Nat) (hi : i < M.length) : M.getD i zs ∈ M := by
  simp [List.getD, hi]

set_option maxHeartbeats 1000000 in
theorem ordered_any (a : Option Addr) (L : List Shr) (c : Nat) (hL : L.length ≤ 1000000) (w : World) (hs : Shs w a L) :
    Calls Try.prog 33 #[.slice a L.length c] w fun e w' => (well (dat L) = false ∧ e = .returned (.tuple #[.slice none 0 0, .bool false]) ∨ well (dat L) = true ∧ ∃ a' c', e = .returned (.tuple #[.slice a' (sortS L).length c', .bool true]) ∧ (sortS L).length ≤ c' ∧ Shs w' a' (sortS L)) ∧ Below w.heap.size w w' := by
  obtain ⟨n, hn⟩ : ∃ n, n = L.length := ⟨_, rfl⟩
  rw [← hn] at hL ⊢
  have N := Lib.hid hn
  have HS := Lib.hid hs
  obtain ⟨g4, e4⟩ : ∃ g, g = w.heap.size := ⟨_, rfl⟩
  have r0 : Row (w.alloc (.cells (icells z256) 67)) g4 67 (icells (atF (dat L) 0)) := Row.new' _ _ e4
  have b0 : Below g4 w (w.alloc (.cells (icells z256) 67)) := by rw [e4]; exact (Below.refl _ _).alloc (Nat.le_refl _) _
  have E4 := Lib.hid e4
  have wle : w.heap.size ≤ g4 := Nat.le_of_eq e4.symm
  clear hs hn e4
  go_enter Try.func33, Try.ntmps33
  go_wp2_with (first | ((with_reducible show wpList _ _ _ (Oper.mk _ (Op.alloc _) _ _ _ _ :: _) _ _); refine wpList_alloc_row rfl 67 rfl _ Try.z67 g4 E4.out ?_))
  generalize w.alloc (.cells (icells z256) 67) = W1 at *
  go_loopw [12] (fun i wr => ∃ k : Nat, k ≤ n ∧ i = .int .i64 k ∧ Row wr g4 67 (icells (atF (dat L) k)) ∧ Below g4 w wr ∧ ∀ j, j < k → okAt (dat L) j) (fun i _ => n - (intOf i).toNat)
  case atStart => exact ⟨0, by omega, rfl, r0, b0, fun j hj => by omega⟩
  case round =>
    clear r0 b0
    obtain ⟨k, hk, rfl, r, hb, hall⟩ := hrel
    by_cases hkn : k < n
    · obtain ⟨g, o, ea, hc⟩ : ∃ g o, a = some ⟨g, o, none⟩ ∧ ∀ i, i < L.length → w.cell? ⟨g, o + i * 2, none⟩ = some (.int .u8 (L.getD i zs).x.toNat) ∧ w.cell? ⟨g, o + i * 2 + 1, none⟩ = some (L.getD i zs).v := by
        rcases HS.out.cells with h | h
        · have := N.out; rw [h] at this; simp at this; omega
        · exact h
      subst ea
      obtain ⟨av, cv, ev, hcv, hbs⟩ := HS.out.svs k (by rw [← N.out]; exact hkn)
      obtain ⟨a0, c0, ev0, hc0, hbs0⟩ := HS.out.svs 0 (by rw [← N.out]; omega)
      have hgw : g < w.heap.size := block_lt_of_cell (a := ⟨g, o + k * 2, none⟩) (hc k (by rw [← N.out]; exact hkn)).1
      have hr : Hid (∀ wr, Below g4 w wr → wr.rangeAt g (o + k * 2) [.int .u8 (L.getD k zs).x.toNat, .slice av (L.getD k zs).b.length cv]) := Lib.hid fun wr hb j v hv => by
        have hcc := hc k (by rw [← N.out]; exact hkn)
        rw [ev] at hcc
        match j, hv with
        | 0, hv => simp at hv; subst hv; exact (hb.cell (p := ⟨g, o + k * 2, none⟩) (by show g < g4; rw [E4.out]; exact hgw)).trans hcc.1
        | 1, hv => simp at hv; subst hv; exact (hb.cell (p := ⟨g, o + k * 2 + 1, none⟩) (by show g < g4; rw [E4.out]; exact hgw)).trans hcc.2
        | (j + 2), hv => simp at hv
      have h0 : Hid (∀ wr, Below g4 w wr → wr.cell? ⟨g, o + 1, none⟩ = some (.slice a0 (L.getD 0 zs).b.length c0)) := Lib.hid fun wr hb => by
        have hcc := hc 0 (by rw [← N.out]; omega)
        rw [ev0] at hcc
        simp only [Nat.zero_mul, Nat.add_zero] at hcc
        exact (hb.cell (p := ⟨g, o + 1, none⟩) (by show g < g4; rw [E4.out]; exact hgw)).trans hcc.2
      have hok : Hid (okAt (dat L) k ↔ (L.getD k zs).x ≠ 0#8 ∧ (atF (dat L) k).getD (L.getD k zs).x.toNat 0 = 0 ∧ (L.getD k zs).b.length = (L.getD 0 zs).b.length) := Lib.hid (by rw [okAt, dX_dat, dB_dat, dB_dat])
      have hstep : Hid (atF (dat L) (k + 1) = (atF (dat L) k).set (L.getD k zs).x.toNat ((k : Int) + 1)) := Lib.hid (by rw [atF, dX_dat])
      have la := length_atF (dat L) k
      have cat := (get_icells (atF (dat L) k) (L.getD k zs).x.toNat (by rw [la]; exact (L.getD k zs).x.isLt))
      have hab := atF_bound (dat L) k (L.getD k zs).x.toNat
      generalize hlb : (L.getD k zs).b.length = lb at *
      generalize hlb0 : (L.getD 0 zs).b.length = lb0 at *
      generalize (L.getD k zs).x = x at *
      generalize (atF (dat L) k).getD x.toNat 0 = av' at *
      clear hc hbs hbs0 ev ev0 la hcv hc0 hlb hlb0
      have x256 := x.isLt
      have xi : (x.toNat : Int) < 256 := by omega
      have ki : (k : Int) < (n : Int) := by omega
      have R := Lib.hid r
      have Hb := Lib.hid hb
      have Hall := Lib.hid hall
      have Cat := Lib.hid cat
      obtain ⟨g6, e6⟩ : ∃ g, g = wr.heap.size := ⟨_, rfl⟩
      have E6 := Lib.hid e6
      clear r hb hall cat e6
      go_wp2_with (first | ((with_reducible show wpList _ _ _ (Oper.mk _ (Op.load _ _) _ _ _ _ :: _) _ _); refine wpList_load_mid rfl 33 (.tmp 15) rfl g (o + k * 2) rfl [.int .u8 x.toNat, .slice av lb cv] _ (hr.out _ Hb.out) Try.underlying33 rfl Try.n33 ?_) | ((with_reducible show wpList _ _ _ (Oper.mk _ (Op.alloc _) _ _ _ _ :: _) _ _); refine wpList_alloc_row rfl 33 rfl _ Try.z33 g6 E6.out ?_) | ((with_reducible show wpList _ _ _ (Oper.mk _ (Op.store _ _ _) _ _ _ _ :: _) _ _); (refine wpList_put_arr rfl 33 (.tmp 6) (.tmp 16) rfl rfl g6 33 _ #[.int .u8 x.toNat, .slice av lb cv] rfl rfl (Row.new' _ _ E6.out) Try.n33 rfl (one_share _ _ _ _) ?_; rw [setRow_new _ _ _ _ _ E6.out])))
      have Hb6 : Hid (Below g4 w (wr.alloc (.cells #[.int .u8 x.toNat, .slice av lb cv] 33))) := Lib.hid (Hb.out.alloc (Nat.le_trans (Nat.le_of_eq E4.out) Hb.out.size) _)
      have R6 : Hid (Row (wr.alloc (.cells #[.int .u8 x.toNat, .slice av lb cv] 33)) g4 67 (icells (atF (dat L) k))) := Lib.hid (R.out.alloc _)
      have hr6 : Row (wr.alloc (.cells #[.int .u8 x.toNat, .slice av lb cv] 33)) g6 33 #[.int .u8 x.toNat, .slice av lb cv] := Row.new' _ _ E6.out
      generalize wr.alloc (.cells #[.int .u8 x.toNat, .slice av lb cv] 33) = W6 at *
      have cx := hr6.cell 0
      have cv' := hr6.cell 1
      have c1 := h0.out W6 Hb6.out
      have c4 := (R6.out.cell x.toNat).trans Cat.out
      have f4 := R6.out.frozen x.toNat
      simp only [List.getElem?_toArray, List.getElem?_cons_zero, List.getElem?_cons_succ] at cx cv'
      have HWF : Hid (¬ okAt (dat L) k → well (dat L) = false) := Lib.hid (well_false (dat L) k (by rw [length_dat, ← N.out]; exact hkn))
      clear hr h0 hr6
      by_cases hx0 : x = 0#8
      · have hf : Hid (¬ okAt (dat L) k) := Lib.hid (fun h => (hok.out.1 h).1 hx0)
        subst hx0
        go_wp2_with fail
        go_quiet (fail)
        go_wp2_with fail
        go_ret2
        exact ⟨.inl ⟨HWF.out hf.out, rfl⟩, (below_drewN Hb6.out _).mono wle⟩
      · have hx1 : ¬ ((x.toNat : Int) = 0) := by have := ne_zero_nat hx0; omega
        have hx2 : ((x.toNat : Int) == 0) = false := by simpa using hx1
        by_cases hav : 0 < av'
        · have hf : Hid (¬ okAt (dat L) k) := Lib.hid (fun h => by have := (hok.out.1 h).2.1; omega)
          have hav' : decide (0 < av') = true := decide_eq_true hav
          go_wp2_with fail
          go_quiet (fail)
          go_wp2_with fail
          go_ret2
          exact ⟨.inl ⟨HWF.out hf.out, rfl⟩, (below_drewN Hb6.out _).mono wle⟩
        · have hav' : decide (0 < av') = false := decide_eq_false hav
          have hav0 : av' = 0 := by omega
          by_cases hlen : lb = lb0
          · have hgood : Hid (okAt (dat L) k) := Lib.hid (hok.out.2 ⟨hx0, hav0, hlen⟩)
            subst hlen
            clear hav0 hab
            go_wp2_with fail
            go_quiet (fail)
            set_option maxRecDepth 20000 in go_wp2_with fail
            go_roundw
            case rel =>
              refine ⟨k + 1, by omega, by go_num, ?_, (below_drewN Hb6.out nq).setCell (Nat.le_refl _) _, fun j hj => ?_⟩
              · rw [hstep.out, ← set_icells]
                exact (R6.out.drewN nq).set x.toNat _
              · by_cases h : j < k
                · exact Hall.out j h
                · rw [show j = k by omega]; exact hgood.out
            case measure => simp [intOf] <;> omega
          · have hf : Hid (¬ okAt (dat L) k) := Lib.hid (fun h => hlen (hok.out.1 h).2.2)
            have hl1 : ¬ ((lb : Int) = (lb0 : Int)) := by omega
            have hl2 : ((lb : Int) == (lb0 : Int)) = false := by simpa using hl1
            clear hav0 hab hlen
            go_wp2_with fail
            go_quiet (fail)
            set_option maxRecDepth 20000 in go_wp2_with fail
            go_ret2
            exact ⟨.inl ⟨HWF.out hf.out, rfl⟩, (below_drewN Hb6.out _).mono wle⟩
    · have hw : Hid (well (dat L) = true) := Lib.hid ((well_iff _).2 fun j hj => hall j (by rw [length_dat, ← N.out] at hj; omega))
      have hkn' : k = L.length := by rw [← N.out]; omega
      have hab := atF_bound (dat L) k
      have la := length_atF (dat L) k
      have hsS : Hid (sortS L = sortU L (atF (dat L) k) 256) := Lib.hid (by rw [sortS, hkn'])
      rw [hkn'] at hab
      rw [← hkn'] at hab
      have hge : ¬ ((k : Int) < (n : Int)) := by omega
      have K := Lib.hid hkn'
      generalize atF (dat L) k = A at *
      obtain ⟨gs, egs⟩ : ∃ g, g = wr.heap.size := ⟨_, rfl⟩
      have hmk : Hid (∀ w, (Instr.makeSlice 31 (.int .i64 0) (.int .i64 (n : Int))).run Try.prog w = .ok (.slice (some ⟨w.heap.size, 0, none⟩) 0 n) (w.alloc (.cells (scells (List.replicate n zs)).toArray 33))) := Lib.hid (fun w => by
        obtain ⟨i, hi, hzz⟩ := Option.map_eq_some_iff.1 Try.info33
        simp only [Prod.mk.injEq] at hzz
        obtain ⟨hz, hs, hb⟩ := hzz
        have hr := run_make (P := Try.prog) w 31 33 i _ Try.underlying31 hi hz .i64 .i64 0 n (by omega) (by omega) (by rw [hb]; omega) (by omega)
        rw [hs] at hr
        simp only [Int.toNat_natCast] at hr
        rw [← made_shares]
        exact hr)
      have hmk' := hmk.out
      have nA : (Try.prog.info? 67).map (·.size) = some (icells A).size := by rw [size_icells, la]; exact Try.n67
      have R := Lib.hid r
      have Hb := Lib.hid hb
      clear hall r hb hkn' hkn hk
      go_wp2_with (first | ((with_reducible show wpList _ _ _ (Oper.mk _ (Op.load _ _) _ _ _ _ :: _) _ _); refine wpList_load_arr rfl 67 (.tmp 4) rfl g4 67 (icells A) Try.underlying67 nA rfl (R.out.alloc _) ?_))
      have hown : BufS g4 (.slice (some ⟨gs, 0, none⟩) 0 n) (sortU L A 0) w (wr.alloc (.cells (scells (List.replicate n zs)).toArray 33)) := by
        refine ⟨?_, Hb.out.alloc (Nat.le_trans (Nat.le_of_eq E4.out) Hb.out.size) _, by simp; have := R.out.lt; omega⟩
        have h0 := World.ownsRow_made (e := 33) (size := 2) wr (scells (List.replicate n zs)).toArray n (base := g4) (by have := R.out.lt; omega) (by unfold maxLen; omega) (by simp [length_scells])
        rw [← egs] at h0
        exact h0
      rw [← egs]
      have HI : Hid (∀ c : Nat, c < 256 → ∀ w, (Instr.index 67 (.agg (icells A)) (.int .i64 (c : Int))).run Try.prog w = .ok (.int .i64 (A.getD c 0)) w) := Lib.hid fun c hc w => run_index_cell w 67 3 256 c (icells A) _ Try.underlying67 Try.n3 (Try.a3 w) hc (get_icells A c (by rw [la]; exact hc))
      have HA : Hid (∀ d, 0 ≤ A.getD d 0 ∧ A.getD d 0 ≤ k) := Lib.hid hab
      clear hmk hmk' R Hb egs la hab nA
      generalize wr.alloc (.cells (scells (List.replicate n zs)).toArray 33) = W7 at *
      clear wr
      go_loopw [7, 48] (fun v i wr => ∃ c : Nat, c ≤ 256 ∧ i = .int .i64 c ∧ BufS g4 v (sortU L A c) w wr) (fun _ i _ => 256 - (intOf i).toNat)
      case atStart => exact ⟨0, by omega, rfl, hown⟩
      case round =>
        clear hown
        obtain ⟨d, hd, rfl, hB⟩ := hrel
        by_cases hd2 : d < 256
        · have hidx := HI.out d hd2
          have hAd := HA.out d
          have hhit := Lib.hid (sortU_hit L A d)
          have hmiss := Lib.hid (sortU_miss L A d)
          have hlen := sortU_len L A d
          have di : (d : Int) < 256 := by omega
          by_cases hpos : 0 < A.getD d 0
          · obtain ⟨j, hj⟩ : ∃ j : Nat, A.getD d 0 = (j : Int) + 1 := ⟨(A.getD d 0 - 1).toNat, by omega⟩
            have hjn : j < L.length := by rw [← K.out]; omega
            have hit := hhit.out hpos
            rw [hj, show ((j : Int) + 1 - 1).toNat = j by omega] at hit
            rw [hj] at hidx
            obtain ⟨g, o, ea, hc⟩ : ∃ g o, a = some ⟨g, o, none⟩ ∧ ∀ i, i < L.length → w.cell? ⟨g, o + i * 2, none⟩ = some (.int .u8 (L.getD i zs).x.toNat) ∧ w.cell? ⟨g, o + i * 2 + 1, none⟩ = some (L.getD i zs).v := by
              rcases HS.out.cells with h | h
              · rw [h] at hjn; simp at hjn
              · exact h
            subst ea
            obtain ⟨av, cv, ev, hcv, hbs⟩ := HS.out.svs j hjn
            have hgw : g < w.heap.size := block_lt_of_cell (a := ⟨g, o + j * 2, none⟩) (hc j hjn).1
            have hr : Hid (wr.rangeAt g (o + j * 2) [.int .u8 (L.getD j zs).x.toNat, .slice av (L.getD j zs).b.length cv]) := Lib.hid fun i v hv => by
              have hcc := hc j hjn
              rw [ev] at hcc
              match i, hv with
              | 0, hv => simp at hv; subst hv; exact (hB.2.1.cell (p := ⟨g, o + j * 2, none⟩) (by show g < g4; rw [E4.out]; exact hgw)).trans hcc.1
              | 1, hv => simp at hv; subst hv; exact (hB.2.1.cell (p := ⟨g, o + j * 2 + 1, none⟩) (by show g < g4; rw [E4.out]; exact hgw)).trans hcc.2
              | (i + 2), hv => simp at hv
            have hjni : (j : Int) < (n : Int) := by rw [N.out]; omega
            have HBb := Lib.hid hB
            have Hit := Lib.hid hit
            have hsh : Hid (L.getD j zs = Shr.mk (L.getD j zs).x (.slice av (L.getD j zs).b.length cv) (L.getD j zs).b) := Lib.hid (by rw [← ev])
            generalize hlb : (L.getD j zs).b.length = lb at *
            generalize hxx : (L.getD j zs).x = x at *
            have j0 : (0 : Int) < (j : Int) + 1 := by omega
            clear hc hbs ev hcv hlb hxx hB hit hj hjn hAd hpos hhit hmiss
            go_wp2_with (first | ((with_reducible show wpList _ _ _ (Oper.mk _ (Op.index _ _ _) _ _ _ _ :: _) _ _); refine wpList_index_run rfl 67 (.tmp 47) (.tmp 48) rfl _ _ (.int .i64 ((j : Int) + 1)) rfl rfl (hidx _) ?_) | ((with_reducible show wpList _ _ _ (Oper.mk _ (Op.load _ _) _ _ _ _ :: _) _ _); refine wpList_load_mid rfl 33 (.tmp 57) rfl g (o + j * 2) rfl [.int .u8 x.toNat, .slice av lb cv] _ hr.out Try.underlying33 rfl Try.n33 ?_) | ((with_reducible show wpList _ _ _ (Oper.mk _ (Op.call _) _ _ _ _ :: _) _ _); refine wpList_push2 rfl (.tmp 53) (.tmp 59) rfl g4 u7 (sortU L A d) rfl w wr _ (L.getD j zs) (by rw [hsh.out]; rfl) (by rw [hsh.out]) HBb.out rfl (by omega) (fun v' w' hv' _ => ?_)))
            go_roundw
            case rel => exact ⟨d + 1, by omega, by go_num, by rw [Hit.out]; exact hv'⟩
            case measure => simp [intOf] <;> omega
          · have hz : A.getD d 0 = 0 := by omega
            have hms := hmiss.out hpos
            rw [hz] at hidx
            have HBb := Lib.hid hB
            have Hms := Lib.hid hms
            clear hB hms hz hpos hAd hhit hmiss
            go_wp2_with (first | ((with_reducible show wpList _ _ _ (Oper.mk _ (Op.index _ _ _) _ _ _ _ :: _) _ _); refine wpList_index_run rfl 67 (.tmp 47) (.tmp 48) rfl _ _ (.int .i64 0) rfl rfl (hidx _) ?_))
            go_roundw
            case rel => exact ⟨d + 1, by omega, by go_num, by rw [Hms.out]; exact HBb.out⟩
            case measure => simp [intOf] <;> omega
        · have hB' : BufS g4 u7 (sortS L) w wr := by
            rw [hsS.out]
            have e : d = 256 := by omega
            rw [e] at hB
            exact hB
          obtain ⟨a', c', ev, hc', hsh⟩ := Shs.of_buf hB' (fun i hi => by
            obtain ⟨m, hm, he⟩ := sortU_mem L A 256 (fun d => by have := (HA.out d).2; rw [K.out] at this; exact this) _ (getD_mem _ i (by rw [← hsS.out]; exact hi))
            rw [hsS.out] at *
            rw [he]
            exact (HS.out.svs m hm).below hB'.2.1 (by rw [E4.out]; exact Nat.le_refl _))
          have hbel := hB'.2.1
          have hdi : ¬ ((d : Int) < 256) := by omega
          clear hB hB' hd hd2
          subst ev
          set_option maxRecDepth 20000 in go_wp2_with fail
          go_ret2
          exact ⟨.inr ⟨hw.out, a', c', rfl, hc', hsh⟩, hbel.mono wle⟩
end Go.Proofs.Ytpghdiklleedaaa
