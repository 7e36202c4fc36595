/- The contract of Cover's inner function. -/
import Derived.Test.YtnpkbjekodjcjaaDoorU
set_option linter.all false
namespace Go.Proofs.YtnpkbjekodjcjaaDoor
open Go.RowKit Go.Fen Hil
set_option linter.unusedVariables false
set_option maxHeartbeats 4000000

theorem AccR.cell {V0 w : World} {gv : Nat} {v : Value} {L : List (Nat × Nat)} (h : AccR V0 gv v L w) {b i : Nat} {u : Value} (hu : V0.cell? ⟨b, i, none⟩ = some u) (hb : b ≠ gv) : w.cell? ⟨b, i, none⟩ = some u := by
  have l := block_lt_of_cell (a := ⟨b, i, none⟩) hu
  rw [← hu]; simp only [World.cell?]; rw [h.2.2.block b l (by simpa using hb)]
theorem AccR.tab {V0 w : World} {gv : Nat} {v : Value} {L : List (Nat × Nat)} (h : AccR V0 gv v L w) (hT : Tab V0) (hv : 0 < gv) : Tab w :=
  ⟨Nat.lt_of_lt_of_le hT.1 h.2.2.size, fun q hq => by
    have t := hT.2 q hq
    exact ⟨h.cell t.1 (by omega), h.cell t.2.1 (by omega), h.cell t.2.2.1 (by omega), h.cell t.2.2.2 (by omega)⟩⟩

theorem length_add (a b : Nat) (out : Rgs) : (add a b out).length ≤ out.length + 1 := by
  unfold add; split <;> simp
theorem length_visit (rc : Rect) (o : Nat) : ∀ k f out, (visit rc o k f out).length ≤ out.length + 4 ^ k := by
  intro k
  induction k with
  | zero =>
    intro f out
    rw [visit]
    split
    · omega
    · split
      · simp
      · have := length_add f (f + 4 ^ 0 - 1) out; simpa using this
  | succ k ih =>
    intro f out
    have e4 : 4 ^ (k + 1) = 4 ^ k * 4 := by rw [Nat.pow_succ]
    have p := four_pos (k + 1)
    rw [visit]
    split
    · omega
    · split
      · have h0 := ih (f + 0 * 4 ^ k) out
        have h1 := ih (f + 1 * 4 ^ k) (visit rc o k (f + 0 * 4 ^ k) out)
        have h2 := ih (f + 2 * 4 ^ k) (visit rc o k (f + 1 * 4 ^ k) (visit rc o k (f + 0 * 4 ^ k) out))
        have h3 := ih (f + 3 * 4 ^ k) (visit rc o k (f + 2 * 4 ^ k) (visit rc o k (f + 1 * 4 ^ k) (visit rc o k (f + 0 * 4 ^ k) out)))
        omega
      · exact Nat.le_trans (length_add f (f + 4 ^ (k + 1) - 1) out) (by omega)
/-- the quarters so far -/
def vl (rc : Rect) (o k first : Nat) (out : Rgs) : Nat → Rgs
  | 0 => out
  | q + 1 => visit rc o k (first + q * 4 ^ k) (vl rc o k first out q)
theorem length_vl (rc : Rect) (o k first : Nat) (out : Rgs) : ∀ q, (vl rc o k first out q).length ≤ out.length + q * 4 ^ k
  | 0 => by simp [vl]
  | q + 1 => by
    rw [vl, Nat.add_mul]
    have := length_visit rc o k (first + q * 4 ^ k) (vl rc o k first out q)
    have := length_vl rc o k first out q
    omega

theorem bound_add (a b M : Nat) (out : Rgs) (h : ∀ p ∈ out, p.2 ≤ M) (hb : b ≤ M) : ∀ p ∈ add a b out, p.2 ≤ M := by
  intro p hp
  unfold add at hp
  split at hp
  · rcases List.mem_or_eq_of_mem_set hp with h1 | h1
    · exact h p h1
    · rw [h1]; exact hb
  · rcases List.mem_append.1 hp with h1 | h1
    · exact h p h1
    · simp at h1; rw [h1]; exact hb
theorem bound_visit (rc : Rect) (o M : Nat) : ∀ k f out, (∀ p ∈ out, p.2 ≤ M) → f + 4 ^ k ≤ M → ∀ p ∈ visit rc o k f out, p.2 ≤ M := by
  intro k
  induction k with
  | zero =>
    intro f out h hf
    rw [visit]
    split
    · exact h
    · split
      · exact h
      · exact bound_add _ _ _ _ h (by omega)
  | succ k ih =>
    intro f out h hf
    have e4 : 4 ^ (k + 1) = 4 ^ k * 4 := by rw [Nat.pow_succ]
    have hf' : f + 4 ^ k * 4 ≤ M := by rw [← e4]; exact hf
    rw [visit]
    split
    · exact h
    · split
      · exact ih _ _ (ih _ _ (ih _ _ (ih _ _ h (by omega)) (by omega)) (by omega)) (by omega)
      · exact bound_add _ _ _ _ h (by omega)
theorem bound_vl (rc : Rect) (o k first M : Nat) (out : Rgs) (h : ∀ p ∈ out, p.2 ≤ M) : ∀ q, first + q * 4 ^ k ≤ M → ∀ p ∈ vl rc o k first out q, p.2 ≤ M
  | 0, _ => h
  | q + 1, hq => by
    rw [Nat.add_mul, Nat.one_mul] at hq
    have p4 := four_pos k
    rw [vl]
    exact bound_visit rc o M k _ _ (bound_vl rc o k first M out h q (by omega)) (by omega)

/-- what the inner function stands on -/
structure Base (V0 : World) (rc : Rect) (o gO gV bo bw : Nat) : Prop where
  tab : Tab V0
  pos : 0 < gO
  lt : gO < V0.heap.size
  ord : V0.cell? ⟨bo, 0, none⟩ = some (.int .i64 o)
  c0 : V0.cell? ⟨bw, 0, none⟩ = some (.int .u32 rc.x0)
  c1 : V0.cell? ⟨bw, 1, none⟩ = some (.int .u32 rc.y0)
  c2 : V0.cell? ⟨bw, 2, none⟩ = some (.int .u32 rc.x1)
  c3 : V0.cell? ⟨bw, 3, none⟩ = some (.int .u32 rc.y1)
  vis : V0.cell? ⟨gV, 0, none⟩ = some (.func (.func 37) #[] #[.pointer (some ⟨bo, 0, none⟩), .pointer (some ⟨bw, 0, none⟩), .pointer (some ⟨gV, 0, none⟩), .pointer (some ⟨gO, 0, none⟩)])
  nb : bo ≠ gO
  nw : bw ≠ gO
  nv : gV ≠ gO
  o1 : 1 ≤ o
  o2 : o ≤ 16
  small : rc.x0 ≤ 65535 ∧ rc.y0 ≤ 65535 ∧ rc.x1 ≤ 65535 ∧ rc.y1 ≤ 65535

theorem wpList_pushG {ops : Array Oper} {rest : List Oper} {o : Oper} {a : Act} {Q : Exit → Act → World → Prop} (hgd : o.guard = none) (s x : Operand)
    (ho : o.op = .call { callee := .builtin .append, args := #[s, x], argTypes := #[54, 54] })
    (B : Nat) (v : Value) (L : List (Nat × Nat)) (hs : a.eval s = v) (w0 w1 : World) (p : Nat × Nat) (hw1 : w1 = w0.alloc (.cells (rcell p).toArray 58)) (hb : w0.ownsRow B 58 2 v L.length (rcells L)) (hB : B ≤ w0.heap.size)
    (g0 : Nat) (hg0 : g0 = w0.heap.size) (hx : a.eval x = .slice (some ⟨g0, 0, none⟩) 1 1) (h63 : L.length ≤ 4294967296)
    (h : ∀ v' w', w'.ownsRow B 58 2 v' (L ++ [p]).length (rcells (L ++ [p])) → w1.grownBy w' v.ownBlock → wpList Tryd.prog ops Q rest (a.put o.dst v') w') : wpList Tryd.prog ops Q (o :: rest) a w1 := by
  obtain ⟨i, hi, hzz⟩ := Option.map_eq_some_iff.1 Tryd.info58
  simp only [Prod.mk.injEq] at hzz
  subst hg0
  subst hw1
  have hb' := owns_grown hb (World.grownBy_alloc w0 (.cells (rcell p).toArray 58) none) (.inr rfl)
  refine wpList_append_lies _ hgd s x 54 ho B 58 i _ 2 16 Tryd.underlying54 hi hzz.1 hzz.2.1 hzz.2.2 rfl (by decide) v L.length (rcells L) hs hb' ⟨w0.heap.size, 0, none⟩ 1 1 (rcell p) hx rfl ?_ ?_ (by decide) (by unfold maxLen; omega) (by omega) (by simp; omega) _ rfl ?_
  · intro j y hj
    have r := (Row.new w0 58 (rcell p).toArray).cell j
    rw [Addr.add_mid, Nat.zero_add, r]
    simpa using hj
  · intro y hy
    simp [rcell] at hy
    rcases hy with rfl | rfl <;> rfl
  · intro g cap w' ho' hg hat _
    refine h _ w' ?_ hg
    rw [rcells_snoc, List.length_append]
    exact ho'

theorem call37 : Program.callable Tryd.prog 37 = true := by kernel_rfl

/-- what a call of the inner function does -/
def Visits (V0 : World) (rc : Rect) (o gO gV bo bw k : Nat) : Prop := ∀ (first : Nat) (L : Rgs) (v : Value) (w : World), k ≤ o → first + 4 ^ k ≤ 4 ^ o → L.length ≤ first → (∀ p ∈ L, p.2 ≤ 4294967296) → AccR V0 gO v L w →
    Calls Tryd.prog 37 #[.int .u64 first, .int .i64 k, .pointer (some ⟨bo, 0, none⟩), .pointer (some ⟨bw, 0, none⟩), .pointer (some ⟨gV, 0, none⟩), .pointer (some ⟨gO, 0, none⟩)] w fun e w' => e = .returned (.tuple #[]) ∧ ∃ v', AccR V0 gO v' (visit rc o k first L) w'

theorem visit_eq (rc : Rect) (o k first : Nat) (L : Rgs) : visit rc o k first L = if down k (pnt o first).1 > rc.x1 ∨ down k (pnt o first).2 > rc.y1 ∨ down k (pnt o first).1 + 2 ^ k - 1 < rc.x0 ∨ down k (pnt o first).2 + 2 ^ k - 1 < rc.y0 then L
    else if down k (pnt o first).1 < rc.x0 ∨ down k (pnt o first).2 < rc.y0 ∨ down k (pnt o first).1 + 2 ^ k - 1 > rc.x1 ∨ down k (pnt o first).2 + 2 ^ k - 1 > rc.y1 then (if k = 0 then L else vl rc o (k - 1) first L 4) else add first (first + 4 ^ k - 1) L := by
  cases k with
  | zero => rw [visit]; rfl
  | succ m => rw [visit]; rfl

set_option maxRecDepth 20000 in
theorem visit_step (V0 : World) (rc : Rect) (o gO gV bo bw : Nat) (B : Base V0 rc o gO gV bo bw) (k : Nat) (IH0 : ∀ m, k = m + 1 → Visits V0 rc o gO gV bo bw m) : Visits V0 rc o gO gV bo bw k := by
    intro first L v w hk hf hL hM hA
    have IH := Lib.hid IH0
    clear IH0
    have VE := visit_eq rc o k first L
    have k16 : k ≤ 16 := Nat.le_trans hk B.o2
    have fl : first < 4 ^ o := by have := four_pos k; omega
    have f32 : 4 ^ o ≤ 4294967296 := four_le16 o B.o2
    have PL := pnt_lt o first fl
    have o16 := pow_le16 o B.o2
    obtain ⟨s, hs⟩ : ∃ s, s = 2 ^ k := ⟨_, rfl⟩
    have s0 : 0 < s := by rw [hs]; exact two_pos k
    have s1 : s ≤ 65536 := by rw [hs]; exact pow_le16 k k16
    have t1 : (2 : Int) ^ k = (s : Int) := by rw [hs]; exact int_two_pow k
    obtain ⟨px, hpx⟩ : ∃ x, x = (pnt o first).1 := ⟨_, rfl⟩
    obtain ⟨py, hpy⟩ : ∃ x, x = (pnt o first).2 := ⟨_, rfl⟩
    have PA := point_any o first w (hA.tab B.tab B.pos)
    have PR : pointR o first = (px, py, 0) := by rw [pointR, if_neg (by rw [Int.toNat_natCast]; have := B.o1; have := B.o2; omega), Int.toNat_natCast, ← hpx, ← hpy]
    rw [PR] at PA
    have HPA := Lib.hid PA
    rw [← hpx, ← hpy] at VE PL
    obtain ⟨X, hX⟩ : ∃ X, X = down k px := ⟨_, rfl⟩
    obtain ⟨Y, hY⟩ : ∃ Y, Y = down k py := ⟨_, rfl⟩
    have X1 : X ≤ 65535 := by have := (down_le k px).1; omega
    have Y1 : Y ≤ 65535 := by have := (down_le k py).1; omega
    have s11 : ((s - 1 : Nat) : Int) = (s : Int) - 1 := by omega
    have AX := andNot_down px k (by omega) k16
    have AY := andNot_down py k (by omega) k16
    rw [← hs, s11, ← hX] at AX
    rw [← hs, s11, ← hY] at AY
    rw [← hX, ← hY, ← hs] at VE
    obtain ⟨x0, hx0⟩ : ∃ x, x = rc.x0 := ⟨_, rfl⟩
    obtain ⟨y0, hy0⟩ : ∃ x, x = rc.y0 := ⟨_, rfl⟩
    obtain ⟨x1, hx1⟩ : ∃ x, x = rc.x1 := ⟨_, rfl⟩
    obtain ⟨y1, hy1⟩ : ∃ x, x = rc.y1 := ⟨_, rfl⟩
    have c0 := B.c0
    have c1 := B.c1
    have c2 := B.c2
    have c3 := B.c3
    have sm := B.small
    rw [← hx0] at c0
    rw [← hy0] at c1
    rw [← hx1] at c2
    rw [← hy1] at c3
    rw [← hx0, ← hy0, ← hx1, ← hy1] at sm VE
    have HC0 := Lib.hid c0
    have HC1 := Lib.hid c1
    have HC2 := Lib.hid c2
    have HC3 := Lib.hid c3
    obtain ⟨sm0, sm1, sm2, sm3⟩ := sm
    have od := hA.cell B.ord B.nb
    have HB := Lib.hid B
    have HA := Lib.hid hA
    have HVE := Lib.hid VE
    have HF := Lib.hid hf
    have HS := Lib.hid hs
    have HL := Lib.hid hL
    have HM := Lib.hid hM
    have HK := Lib.hid hk
    clear VE PA PR hpx hpy hX hY PL hA B c0 c1 c2 c3 hs s11 hf hL hM hk fl f32 o16 hx0 hy0 hx1 hy1
    by_cases p0 : x1 < X
    · have RV := Lib.hid (show visit rc o k first L = L by rw [HVE.out, if_pos (by omega)])
      have i0 : ((x1 : Int) < (X : Int)) := by omega
      have j0 : decide ((x1 : Int) < (X : Int)) = true := decide_eq_true i0
      have n0 : decide (x1 < X) = true := decide_eq_true (by omega)
      clear p0
      go_enter Tryd.func37, Tryd.ntmps37
      go_wp2_with fail
      refine HPA.out.mono ?_
      rintro e w1 ⟨rfl, b1⟩
      have A1 := HA.out.call b1
      have d0 := A1.cell HC0.out HB.out.nw
      have d1 := A1.cell HC1.out HB.out.nw
      have d2 := A1.cell HC2.out HB.out.nw
      have d3 := A1.cell HC3.out HB.out.nw
      have HA1 := Lib.hid A1
      clear A1 b1 od
      go_wp2_with fail
      first | go_end0 | (try simp only [Exit.inBlock, Exit.then]); refine bodyPost_ret (results_none rfl _ _ _) rfl ?_
      exact ⟨rfl, v, by rw [RV.out]; exact HA1.out⟩
    · skip
      by_cases p1 : y1 < Y
      · have RV := Lib.hid (show visit rc o k first L = L by rw [HVE.out, if_pos (by omega)])
        have i0 : ¬ ((x1 : Int) < (X : Int)) := by omega
        have j0 : decide ((x1 : Int) < (X : Int)) = false := decide_eq_false i0
        have n0 : decide (x1 < X) = false := decide_eq_false (by omega)
        have i1 : ((y1 : Int) < (Y : Int)) := by omega
        have j1 : decide ((y1 : Int) < (Y : Int)) = true := decide_eq_true i1
        have n1 : decide (y1 < Y) = true := decide_eq_true (by omega)
        clear p0 p1
        go_enter Tryd.func37, Tryd.ntmps37
        go_wp2_with fail
        refine HPA.out.mono ?_
        rintro e w1 ⟨rfl, b1⟩
        have A1 := HA.out.call b1
        have d0 := A1.cell HC0.out HB.out.nw
        have d1 := A1.cell HC1.out HB.out.nw
        have d2 := A1.cell HC2.out HB.out.nw
        have d3 := A1.cell HC3.out HB.out.nw
        have HA1 := Lib.hid A1
        clear A1 b1 od
        go_wp2_with fail
        first | go_end0 | (try simp only [Exit.inBlock, Exit.then]); refine bodyPost_ret (results_none rfl _ _ _) rfl ?_
        exact ⟨rfl, v, by rw [RV.out]; exact HA1.out⟩
      · skip
        by_cases p2 : X + s - 1 < x0
        · have RV := Lib.hid (show visit rc o k first L = L by rw [HVE.out, if_pos (by omega)])
          have i0 : ¬ ((x1 : Int) < (X : Int)) := by omega
          have j0 : decide ((x1 : Int) < (X : Int)) = false := decide_eq_false i0
          have n0 : decide (x1 < X) = false := decide_eq_false (by omega)
          have i1 : ¬ ((y1 : Int) < (Y : Int)) := by omega
          have j1 : decide ((y1 : Int) < (Y : Int)) = false := decide_eq_false i1
          have n1 : decide (y1 < Y) = false := decide_eq_false (by omega)
          have i2 : ((X : Int) + (s : Int) - 1 < (x0 : Int)) := by omega
          have j2 : decide ((X : Int) + (s : Int) - 1 < (x0 : Int)) = true := decide_eq_true i2
          clear p0 p1 p2
          go_enter Tryd.func37, Tryd.ntmps37
          go_wp2_with fail
          refine HPA.out.mono ?_
          rintro e w1 ⟨rfl, b1⟩
          have A1 := HA.out.call b1
          have d0 := A1.cell HC0.out HB.out.nw
          have d1 := A1.cell HC1.out HB.out.nw
          have d2 := A1.cell HC2.out HB.out.nw
          have d3 := A1.cell HC3.out HB.out.nw
          have HA1 := Lib.hid A1
          clear A1 b1 od
          go_wp2_with fail
          first | go_end0 | (try simp only [Exit.inBlock, Exit.then]); refine bodyPost_ret (results_none rfl _ _ _) rfl ?_
          exact ⟨rfl, v, by rw [RV.out]; exact HA1.out⟩
        · skip
          by_cases p3 : Y + s - 1 < y0
          · have RV := Lib.hid (show visit rc o k first L = L by rw [HVE.out, if_pos (by omega)])
            have i0 : ¬ ((x1 : Int) < (X : Int)) := by omega
            have j0 : decide ((x1 : Int) < (X : Int)) = false := decide_eq_false i0
            have n0 : decide (x1 < X) = false := decide_eq_false (by omega)
            have i1 : ¬ ((y1 : Int) < (Y : Int)) := by omega
            have j1 : decide ((y1 : Int) < (Y : Int)) = false := decide_eq_false i1
            have n1 : decide (y1 < Y) = false := decide_eq_false (by omega)
            have i2 : ¬ ((X : Int) + (s : Int) - 1 < (x0 : Int)) := by omega
            have j2 : decide ((X : Int) + (s : Int) - 1 < (x0 : Int)) = false := decide_eq_false i2
            have i3 : ((Y : Int) + (s : Int) - 1 < (y0 : Int)) := by omega
            have j3 : decide ((Y : Int) + (s : Int) - 1 < (y0 : Int)) = true := decide_eq_true i3
            clear p0 p1 p2 p3
            go_enter Tryd.func37, Tryd.ntmps37
            go_wp2_with fail
            refine HPA.out.mono ?_
            rintro e w1 ⟨rfl, b1⟩
            have A1 := HA.out.call b1
            have d0 := A1.cell HC0.out HB.out.nw
            have d1 := A1.cell HC1.out HB.out.nw
            have d2 := A1.cell HC2.out HB.out.nw
            have d3 := A1.cell HC3.out HB.out.nw
            have HA1 := Lib.hid A1
            clear A1 b1 od
            go_wp2_with fail
            first | go_end0 | (try simp only [Exit.inBlock, Exit.then]); refine bodyPost_ret (results_none rfl _ _ _) rfl ?_
            exact ⟨rfl, v, by rw [RV.out]; exact HA1.out⟩
          · skip
            by_cases p4 : X < x0
            · have k0 : ¬ k = 0 := fun e => by have h := HS.out; rw [e] at h; omega
              obtain ⟨m, hkm⟩ : ∃ m, k = m + 1 := ⟨k - 1, by omega⟩
              have RV := Lib.hid (show visit rc o k first L = vl rc o m first L 4 by rw [HVE.out, if_neg (by omega), if_pos (by omega), if_neg k0, hkm]; rfl)
              have HKM := Lib.hid hkm
              have km : (k : Int) - 1 = (m : Int) := by omega
              clear hkm k0
              have i0 : ¬ ((x1 : Int) < (X : Int)) := by omega
              have j0 : decide ((x1 : Int) < (X : Int)) = false := decide_eq_false i0
              have n0 : decide (x1 < X) = false := decide_eq_false (by omega)
              have i1 : ¬ ((y1 : Int) < (Y : Int)) := by omega
              have j1 : decide ((y1 : Int) < (Y : Int)) = false := decide_eq_false i1
              have n1 : decide (y1 < Y) = false := decide_eq_false (by omega)
              have i2 : ¬ ((X : Int) + (s : Int) - 1 < (x0 : Int)) := by omega
              have j2 : decide ((X : Int) + (s : Int) - 1 < (x0 : Int)) = false := decide_eq_false i2
              have i3 : ¬ ((Y : Int) + (s : Int) - 1 < (y0 : Int)) := by omega
              have j3 : decide ((Y : Int) + (s : Int) - 1 < (y0 : Int)) = false := decide_eq_false i3
              have i4 : ((X : Int) < (x0 : Int)) := by omega
              have j4 : decide ((X : Int) < (x0 : Int)) = true := decide_eq_true i4
              have n4 : decide (X < x0) = true := decide_eq_true (by omega)
              clear p0 p1 p2 p3 p4
              go_enter Tryd.func37, Tryd.ntmps37
              go_wp2_with fail
              refine HPA.out.mono ?_
              rintro e w1 ⟨rfl, b1⟩
              have A1 := HA.out.call b1
              have d0 := A1.cell HC0.out HB.out.nw
              have d1 := A1.cell HC1.out HB.out.nw
              have d2 := A1.cell HC2.out HB.out.nw
              have d3 := A1.cell HC3.out HB.out.nw
              have HA1 := Lib.hid A1
              clear A1 b1 od
              go_wp2_with fail
              go_loopw [12, 88] (fun _ cv wr => ∃ (q : Nat) (u : Value), q ≤ 4 ∧ cv = .int .u64 q ∧ AccR V0 gO u (vl rc o m first L q) wr) (fun _ cv _ => 4 - (intOf cv).toNat)
              case atStart => exact ⟨0, v, by omega, rfl, HA1.out⟩
              case round =>
                obtain ⟨q, u, hq, rfl, hAq⟩ := hrel
                by_cases hq4 : q < 4
                · have qi : (q : Int) < 4 := by omega
                  obtain ⟨f1, hf1⟩ : ∃ f1, f1 = first + q * 4 ^ m := ⟨_, rfl⟩
                  have e4 : 4 ^ k = 4 * 4 ^ m := by rw [HKM.out, Nat.pow_succ, Nat.mul_comm]
                  have q1 : (q + 1) * 4 ^ m ≤ 4 * 4 ^ m := Nat.mul_le_mul_right _ (by omega)
                  rw [Nat.add_mul, Nat.one_mul] at q1
                  have hF := HF.out
                  rw [e4] at hF
                  have lo := four_le16 o HB.out.o2
                  have lv := length_vl rc o m first L q
                  have hL := HL.out
                  have call := IH.out m HKM.out f1 (vl rc o m first L q) u wr.drew (by have := HK.out; have := HKM.out; omega) (by rw [hf1]; omega) (by rw [hf1]; omega) (bound_vl rc o m first _ L HM.out q (by omega)) (hAq.call (below_drewN (Below.refl _ _) 1))
                  have vs : vl rc o m first L (q + 1) = visit rc o m f1 (vl rc o m first L q) := by rw [vl, hf1]
                  have hS : wr.drew.cell? ⟨gV, 0, none⟩ = some (.func (.func 37) #[] #[.pointer (some ⟨bo, 0, none⟩), .pointer (some ⟨bw, 0, none⟩), .pointer (some ⟨gV, 0, none⟩), .pointer (some ⟨gO, 0, none⟩)]) := hAq.cell HB.out.vis HB.out.nv
                  obtain ⟨z, hz⟩ : ∃ z, z = q * 4 ^ m := ⟨_, rfl⟩
                  have z1 : (q : Int) * 2 ^ (2 * m) = (z : Int) := by rw [hz, int_four_pow]; simp
                  have z2 : z ≤ 4294967296 := by omega
                  have z3 : (first : Int) + (z : Int) = (f1 : Int) := by omega
                  have z4 : f1 ≤ 4294967296 := by omega
                  have m16 : m ≤ 16 := by have := HKM.out; omega
                  have w1 : IntKind.i64.wrap (m : Int) = (m : Int) := wrap_i64 _ (by omega) (by omega)
                  have w2 : IntKind.i64.wrap (2 * (m : Int)) = 2 * (m : Int) := wrap_i64 _ (by omega) (by omega)
                  have w3 : IntKind.u64.wrap ((q : Int) * 2 ^ (2 * (m : Int)).toNat) = (z : Int) := by rw [show (2 * (m : Int)).toNat = 2 * m by omega, z1, wrap64]; omega
                  have w4 : IntKind.u64.wrap (f1 : Int) = (f1 : Int) := by rw [wrap64]; omega
                  have CALL := Lib.hid call
                  have VS := Lib.hid vs
                  have HQ := Lib.hid hq4
                  clear call vs hz hf1 e4 q1 hF lo lv hL hAq hq hq4
                  go_wp2_with fail
                  refine wp_region_held (S := fun W' => W'.cell? ⟨gV, 0, none⟩ = some (.func (.func 37) #[] #[.pointer (some ⟨bo, 0, none⟩), .pointer (some ⟨bw, 0, none⟩), .pointer (some ⟨gV, 0, none⟩), .pointer (some ⟨gO, 0, none⟩)])) (by kernel_rfl) ?_
                  refine take_run 0 91 (.func (.func 37) #[] #[.pointer (some ⟨bo, 0, none⟩), .pointer (some ⟨bw, 0, none⟩), .pointer (some ⟨gV, 0, none⟩), .pointer (some ⟨gO, 0, none⟩)]) rfl rfl rfl (fun W hW => by go_simp) (by kernel_rfl) (by kernel_rfl) (by kernel_rfl) (fun _ _ _ h => h) hS ?_
                  simp only [Act.put, List.setIfInBounds_toArray, List.set_cons_zero, List.set_cons_succ]
                  refine take_move 1 92 (.tmp 0) _ rfl rfl rfl rfl rfl (by kernel_rfl) (by kernel_rfl) (by kernel_rfl) (fun _ _ _ h => h) hS ?_
                  simp only [Act.put, List.setIfInBounds_toArray, List.set_cons_zero, List.set_cons_succ]
                  refine take_move 2 93 (.tmp 12) _ rfl rfl rfl rfl rfl (by kernel_rfl) (by kernel_rfl) (by kernel_rfl) (fun _ _ _ h => h) hS ?_
                  simp only [Act.put, List.setIfInBounds_toArray, List.set_cons_zero, List.set_cons_succ]
                  refine take_move 3 94 (.tmp 1) _ rfl rfl rfl rfl rfl (by kernel_rfl) (by kernel_rfl) (by kernel_rfl) (fun _ _ _ h => h) hS ?_
                  simp only [Act.put, List.setIfInBounds_toArray, List.set_cons_zero, List.set_cons_succ]
                  refine take_run 4 95 (.int .i64 m) rfl rfl rfl (fun W hW => by go_simp) (by kernel_rfl) (by kernel_rfl) (by kernel_rfl) (fun _ _ _ h => h) hS ?_
                  simp only [Act.put, List.setIfInBounds_toArray, List.set_cons_zero, List.set_cons_succ]
                  refine take_run 5 96 (.int .i64 (2 * (m : Int))) rfl rfl rfl (fun W hW => by go_simp) (by kernel_rfl) (by kernel_rfl) (by kernel_rfl) (fun _ _ _ h => h) hS ?_
                  simp only [Act.put, List.setIfInBounds_toArray, List.set_cons_zero, List.set_cons_succ]
                  refine take_run 6 97 (.int .u64 z) rfl rfl rfl (fun W hW => by go_simp) (by kernel_rfl) (by kernel_rfl) (by kernel_rfl) (fun _ _ _ h => h) hS ?_
                  simp only [Act.put, List.setIfInBounds_toArray, List.set_cons_zero, List.set_cons_succ]
                  refine take_run 7 98 (.int .u64 f1) rfl rfl rfl (fun W hW => by go_simp) (by kernel_rfl) (by kernel_rfl) (by kernel_rfl) (fun _ _ _ h => h) hS ?_
                  simp only [Act.put, List.setIfInBounds_toArray, List.set_cons_zero, List.set_cons_succ]
                  refine take_move 8 99 (.tmp 1) _ rfl rfl rfl rfl rfl (by kernel_rfl) (by kernel_rfl) (by kernel_rfl) (fun _ _ _ h => h) hS ?_
                  simp only [Act.put, List.setIfInBounds_toArray, List.set_cons_zero, List.set_cons_succ]
                  refine take_run 9 100 (.int .i64 m) rfl rfl rfl (fun W hW => by go_simp) (by kernel_rfl) (by kernel_rfl) (by kernel_rfl) (fun _ _ _ h => h) hS ?_
                  simp only [Act.put, List.setIfInBounds_toArray, List.set_cons_zero, List.set_cons_succ]
                  refine wpAnyH_one (i := 10) (by kernel_rfl) rfl rfl (wp_call_val (x := .tmp 91) rfl rfl call37 CALL.out (by simp [Act.eval]) (d := 101) rfl ?_)
                  rintro e w2' ⟨rfl, u', hA'⟩
                  refine ⟨_, rfl, hA'.cell HB.out.vis HB.out.nv, ?_⟩
                  simp only [Act.put, List.setIfInBounds_toArray, List.set_cons_zero, List.set_cons_succ]
                  refine wpAnyH_done (by kernel_rfl) ?_ _
                  have HA' := Lib.hid hA'
                  clear hA' hS w1 w2 w3 w4
                  go_wp2_with fail
                  go_roundw
                  case rel => exact ⟨q + 1, u', HQ.out, by go_num, by rw [VS.out]; exact HA'.out⟩
                  case measure => have := HQ.out; simp [intOf] <;> omega
                · obtain rfl : q = 4 := by omega
                  have HA4 := Lib.hid hAq
                  clear hAq
                  go_wp2_with fail
                  first | go_end0 | (try simp only [Exit.inBlock, Exit.then]); refine bodyPost_ret (results_none rfl _ _ _) rfl ?_
                  exact ⟨rfl, u, by rw [RV.out]; exact HA4.out⟩
            · skip
              by_cases p5 : Y < y0
              · have k0 : ¬ k = 0 := fun e => by have h := HS.out; rw [e] at h; omega
                obtain ⟨m, hkm⟩ : ∃ m, k = m + 1 := ⟨k - 1, by omega⟩
                have RV := Lib.hid (show visit rc o k first L = vl rc o m first L 4 by rw [HVE.out, if_neg (by omega), if_pos (by omega), if_neg k0, hkm]; rfl)
                have HKM := Lib.hid hkm
                have km : (k : Int) - 1 = (m : Int) := by omega
                clear hkm k0
                have i0 : ¬ ((x1 : Int) < (X : Int)) := by omega
                have j0 : decide ((x1 : Int) < (X : Int)) = false := decide_eq_false i0
                have n0 : decide (x1 < X) = false := decide_eq_false (by omega)
                have i1 : ¬ ((y1 : Int) < (Y : Int)) := by omega
                have j1 : decide ((y1 : Int) < (Y : Int)) = false := decide_eq_false i1
                have n1 : decide (y1 < Y) = false := decide_eq_false (by omega)
                have i2 : ¬ ((X : Int) + (s : Int) - 1 < (x0 : Int)) := by omega
                have j2 : decide ((X : Int) + (s : Int) - 1 < (x0 : Int)) = false := decide_eq_false i2
                have i3 : ¬ ((Y : Int) + (s : Int) - 1 < (y0 : Int)) := by omega
                have j3 : decide ((Y : Int) + (s : Int) - 1 < (y0 : Int)) = false := decide_eq_false i3
                have i4 : ¬ ((X : Int) < (x0 : Int)) := by omega
                have j4 : decide ((X : Int) < (x0 : Int)) = false := decide_eq_false i4
                have n4 : decide (X < x0) = false := decide_eq_false (by omega)
                have i5 : ((Y : Int) < (y0 : Int)) := by omega
                have j5 : decide ((Y : Int) < (y0 : Int)) = true := decide_eq_true i5
                have n5 : decide (Y < y0) = true := decide_eq_true (by omega)
                clear p0 p1 p2 p3 p4 p5
                go_enter Tryd.func37, Tryd.ntmps37
                go_wp2_with fail
                refine HPA.out.mono ?_
                rintro e w1 ⟨rfl, b1⟩
                have A1 := HA.out.call b1
                have d0 := A1.cell HC0.out HB.out.nw
                have d1 := A1.cell HC1.out HB.out.nw
                have d2 := A1.cell HC2.out HB.out.nw
                have d3 := A1.cell HC3.out HB.out.nw
                have HA1 := Lib.hid A1
                clear A1 b1 od
                go_wp2_with fail
                go_loopw [12, 88] (fun _ cv wr => ∃ (q : Nat) (u : Value), q ≤ 4 ∧ cv = .int .u64 q ∧ AccR V0 gO u (vl rc o m first L q) wr) (fun _ cv _ => 4 - (intOf cv).toNat)
                case atStart => exact ⟨0, v, by omega, rfl, HA1.out⟩
                case round =>
                  obtain ⟨q, u, hq, rfl, hAq⟩ := hrel
                  by_cases hq4 : q < 4
                  · have qi : (q : Int) < 4 := by omega
                    obtain ⟨f1, hf1⟩ : ∃ f1, f1 = first + q * 4 ^ m := ⟨_, rfl⟩
                    have e4 : 4 ^ k = 4 * 4 ^ m := by rw [HKM.out, Nat.pow_succ, Nat.mul_comm]
                    have q1 : (q + 1) * 4 ^ m ≤ 4 * 4 ^ m := Nat.mul_le_mul_right _ (by omega)
                    rw [Nat.add_mul, Nat.one_mul] at q1
                    have hF := HF.out
                    rw [e4] at hF
                    have lo := four_le16 o HB.out.o2
                    have lv := length_vl rc o m first L q
                    have hL := HL.out
                    have call := IH.out m HKM.out f1 (vl rc o m first L q) u wr.drew (by have := HK.out; have := HKM.out; omega) (by rw [hf1]; omega) (by rw [hf1]; omega) (bound_vl rc o m first _ L HM.out q (by omega)) (hAq.call (below_drewN (Below.refl _ _) 1))
                    have vs : vl rc o m first L (q + 1) = visit rc o m f1 (vl rc o m first L q) := by rw [vl, hf1]
                    have hS : wr.drew.cell? ⟨gV, 0, none⟩ = some (.func (.func 37) #[] #[.pointer (some ⟨bo, 0, none⟩), .pointer (some ⟨bw, 0, none⟩), .pointer (some ⟨gV, 0, none⟩), .pointer (some ⟨gO, 0, none⟩)]) := hAq.cell HB.out.vis HB.out.nv
                    obtain ⟨z, hz⟩ : ∃ z, z = q * 4 ^ m := ⟨_, rfl⟩
                    have z1 : (q : Int) * 2 ^ (2 * m) = (z : Int) := by rw [hz, int_four_pow]; simp
                    have z2 : z ≤ 4294967296 := by omega
                    have z3 : (first : Int) + (z : Int) = (f1 : Int) := by omega
                    have z4 : f1 ≤ 4294967296 := by omega
                    have m16 : m ≤ 16 := by have := HKM.out; omega
                    have w1 : IntKind.i64.wrap (m : Int) = (m : Int) := wrap_i64 _ (by omega) (by omega)
                    have w2 : IntKind.i64.wrap (2 * (m : Int)) = 2 * (m : Int) := wrap_i64 _ (by omega) (by omega)
                    have w3 : IntKind.u64.wrap ((q : Int) * 2 ^ (2 * (m : Int)).toNat) = (z : Int) := by rw [show (2 * (m : Int)).toNat = 2 * m by omega, z1, wrap64]; omega
                    have w4 : IntKind.u64.wrap (f1 : Int) = (f1 : Int) := by rw [wrap64]; omega
                    have CALL := Lib.hid call
                    have VS := Lib.hid vs
                    have HQ := Lib.hid hq4
                    clear call vs hz hf1 e4 q1 hF lo lv hL hAq hq hq4
                    go_wp2_with fail
                    refine wp_region_held (S := fun W' => W'.cell? ⟨gV, 0, none⟩ = some (.func (.func 37) #[] #[.pointer (some ⟨bo, 0, none⟩), .pointer (some ⟨bw, 0, none⟩), .pointer (some ⟨gV, 0, none⟩), .pointer (some ⟨gO, 0, none⟩)])) (by kernel_rfl) ?_
                    refine take_run 0 91 (.func (.func 37) #[] #[.pointer (some ⟨bo, 0, none⟩), .pointer (some ⟨bw, 0, none⟩), .pointer (some ⟨gV, 0, none⟩), .pointer (some ⟨gO, 0, none⟩)]) rfl rfl rfl (fun W hW => by go_simp) (by kernel_rfl) (by kernel_rfl) (by kernel_rfl) (fun _ _ _ h => h) hS ?_
                    simp only [Act.put, List.setIfInBounds_toArray, List.set_cons_zero, List.set_cons_succ]
                    refine take_move 1 92 (.tmp 0) _ rfl rfl rfl rfl rfl (by kernel_rfl) (by kernel_rfl) (by kernel_rfl) (fun _ _ _ h => h) hS ?_
                    simp only [Act.put, List.setIfInBounds_toArray, List.set_cons_zero, List.set_cons_succ]
                    refine take_move 2 93 (.tmp 12) _ rfl rfl rfl rfl rfl (by kernel_rfl) (by kernel_rfl) (by kernel_rfl) (fun _ _ _ h => h) hS ?_
                    simp only [Act.put, List.setIfInBounds_toArray, List.set_cons_zero, List.set_cons_succ]
                    refine take_move 3 94 (.tmp 1) _ rfl rfl rfl rfl rfl (by kernel_rfl) (by kernel_rfl) (by kernel_rfl) (fun _ _ _ h => h) hS ?_
                    simp only [Act.put, List.setIfInBounds_toArray, List.set_cons_zero, List.set_cons_succ]
                    refine take_run 4 95 (.int .i64 m) rfl rfl rfl (fun W hW => by go_simp) (by kernel_rfl) (by kernel_rfl) (by kernel_rfl) (fun _ _ _ h => h) hS ?_
                    simp only [Act.put, List.setIfInBounds_toArray, List.set_cons_zero, List.set_cons_succ]
                    refine take_run 5 96 (.int .i64 (2 * (m : Int))) rfl rfl rfl (fun W hW => by go_simp) (by kernel_rfl) (by kernel_rfl) (by kernel_rfl) (fun _ _ _ h => h) hS ?_
                    simp only [Act.put, List.setIfInBounds_toArray, List.set_cons_zero, List.set_cons_succ]
                    refine take_run 6 97 (.int .u64 z) rfl rfl rfl (fun W hW => by go_simp) (by kernel_rfl) (by kernel_rfl) (by kernel_rfl) (fun _ _ _ h => h) hS ?_
                    simp only [Act.put, List.setIfInBounds_toArray, List.set_cons_zero, List.set_cons_succ]
                    refine take_run 7 98 (.int .u64 f1) rfl rfl rfl (fun W hW => by go_simp) (by kernel_rfl) (by kernel_rfl) (by kernel_rfl) (fun _ _ _ h => h) hS ?_
                    simp only [Act.put, List.setIfInBounds_toArray, List.set_cons_zero, List.set_cons_succ]
                    refine take_move 8 99 (.tmp 1) _ rfl rfl rfl rfl rfl (by kernel_rfl) (by kernel_rfl) (by kernel_rfl) (fun _ _ _ h => h) hS ?_
                    simp only [Act.put, List.setIfInBounds_toArray, List.set_cons_zero, List.set_cons_succ]
                    refine take_run 9 100 (.int .i64 m) rfl rfl rfl (fun W hW => by go_simp) (by kernel_rfl) (by kernel_rfl) (by kernel_rfl) (fun _ _ _ h => h) hS ?_
                    simp only [Act.put, List.setIfInBounds_toArray, List.set_cons_zero, List.set_cons_succ]
                    refine wpAnyH_one (i := 10) (by kernel_rfl) rfl rfl (wp_call_val (x := .tmp 91) rfl rfl call37 CALL.out (by simp [Act.eval]) (d := 101) rfl ?_)
                    rintro e w2' ⟨rfl, u', hA'⟩
                    refine ⟨_, rfl, hA'.cell HB.out.vis HB.out.nv, ?_⟩
                    simp only [Act.put, List.setIfInBounds_toArray, List.set_cons_zero, List.set_cons_succ]
                    refine wpAnyH_done (by kernel_rfl) ?_ _
                    have HA' := Lib.hid hA'
                    clear hA' hS w1 w2 w3 w4
                    go_wp2_with fail
                    go_roundw
                    case rel => exact ⟨q + 1, u', HQ.out, by go_num, by rw [VS.out]; exact HA'.out⟩
                    case measure => have := HQ.out; simp [intOf] <;> omega
                  · obtain rfl : q = 4 := by omega
                    have HA4 := Lib.hid hAq
                    clear hAq
                    go_wp2_with fail
                    first | go_end0 | (try simp only [Exit.inBlock, Exit.then]); refine bodyPost_ret (results_none rfl _ _ _) rfl ?_
                    exact ⟨rfl, u, by rw [RV.out]; exact HA4.out⟩
              · skip
                by_cases p6 : x1 < X + s - 1
                · have k0 : ¬ k = 0 := fun e => by have h := HS.out; rw [e] at h; omega
                  obtain ⟨m, hkm⟩ : ∃ m, k = m + 1 := ⟨k - 1, by omega⟩
                  have RV := Lib.hid (show visit rc o k first L = vl rc o m first L 4 by rw [HVE.out, if_neg (by omega), if_pos (by omega), if_neg k0, hkm]; rfl)
                  have HKM := Lib.hid hkm
                  have km : (k : Int) - 1 = (m : Int) := by omega
                  clear hkm k0
                  have i0 : ¬ ((x1 : Int) < (X : Int)) := by omega
                  have j0 : decide ((x1 : Int) < (X : Int)) = false := decide_eq_false i0
                  have n0 : decide (x1 < X) = false := decide_eq_false (by omega)
                  have i1 : ¬ ((y1 : Int) < (Y : Int)) := by omega
                  have j1 : decide ((y1 : Int) < (Y : Int)) = false := decide_eq_false i1
                  have n1 : decide (y1 < Y) = false := decide_eq_false (by omega)
                  have i2 : ¬ ((X : Int) + (s : Int) - 1 < (x0 : Int)) := by omega
                  have j2 : decide ((X : Int) + (s : Int) - 1 < (x0 : Int)) = false := decide_eq_false i2
                  have i3 : ¬ ((Y : Int) + (s : Int) - 1 < (y0 : Int)) := by omega
                  have j3 : decide ((Y : Int) + (s : Int) - 1 < (y0 : Int)) = false := decide_eq_false i3
                  have i4 : ¬ ((X : Int) < (x0 : Int)) := by omega
                  have j4 : decide ((X : Int) < (x0 : Int)) = false := decide_eq_false i4
                  have n4 : decide (X < x0) = false := decide_eq_false (by omega)
                  have i5 : ¬ ((Y : Int) < (y0 : Int)) := by omega
                  have j5 : decide ((Y : Int) < (y0 : Int)) = false := decide_eq_false i5
                  have n5 : decide (Y < y0) = false := decide_eq_false (by omega)
                  have i6 : ((x1 : Int) < (X : Int) + (s : Int) - 1) := by omega
                  have j6 : decide ((x1 : Int) < (X : Int) + (s : Int) - 1) = true := decide_eq_true i6
                  clear p0 p1 p2 p3 p4 p5 p6
                  go_enter Tryd.func37, Tryd.ntmps37
                  go_wp2_with fail
                  refine HPA.out.mono ?_
                  rintro e w1 ⟨rfl, b1⟩
                  have A1 := HA.out.call b1
                  have d0 := A1.cell HC0.out HB.out.nw
                  have d1 := A1.cell HC1.out HB.out.nw
                  have d2 := A1.cell HC2.out HB.out.nw
                  have d3 := A1.cell HC3.out HB.out.nw
                  have HA1 := Lib.hid A1
                  clear A1 b1 od
                  go_wp2_with fail
                  go_loopw [12, 88] (fun _ cv wr => ∃ (q : Nat) (u : Value), q ≤ 4 ∧ cv = .int .u64 q ∧ AccR V0 gO u (vl rc o m first L q) wr) (fun _ cv _ => 4 - (intOf cv).toNat)
                  case atStart => exact ⟨0, v, by omega, rfl, HA1.out⟩
                  case round =>
                    obtain ⟨q, u, hq, rfl, hAq⟩ := hrel
                    by_cases hq4 : q < 4
                    · have qi : (q : Int) < 4 := by omega
                      obtain ⟨f1, hf1⟩ : ∃ f1, f1 = first + q * 4 ^ m := ⟨_, rfl⟩
                      have e4 : 4 ^ k = 4 * 4 ^ m := by rw [HKM.out, Nat.pow_succ, Nat.mul_comm]
                      have q1 : (q + 1) * 4 ^ m ≤ 4 * 4 ^ m := Nat.mul_le_mul_right _ (by omega)
                      rw [Nat.add_mul, Nat.one_mul] at q1
                      have hF := HF.out
                      rw [e4] at hF
                      have lo := four_le16 o HB.out.o2
                      have lv := length_vl rc o m first L q
                      have hL := HL.out
                      have call := IH.out m HKM.out f1 (vl rc o m first L q) u wr.drew (by have := HK.out; have := HKM.out; omega) (by rw [hf1]; omega) (by rw [hf1]; omega) (bound_vl rc o m first _ L HM.out q (by omega)) (hAq.call (below_drewN (Below.refl _ _) 1))
                      have vs : vl rc o m first L (q + 1) = visit rc o m f1 (vl rc o m first L q) := by rw [vl, hf1]
                      have hS : wr.drew.cell? ⟨gV, 0, none⟩ = some (.func (.func 37) #[] #[.pointer (some ⟨bo, 0, none⟩), .pointer (some ⟨bw, 0, none⟩), .pointer (some ⟨gV, 0, none⟩), .pointer (some ⟨gO, 0, none⟩)]) := hAq.cell HB.out.vis HB.out.nv
                      obtain ⟨z, hz⟩ : ∃ z, z = q * 4 ^ m := ⟨_, rfl⟩
                      have z1 : (q : Int) * 2 ^ (2 * m) = (z : Int) := by rw [hz, int_four_pow]; simp
                      have z2 : z ≤ 4294967296 := by omega
                      have z3 : (first : Int) + (z : Int) = (f1 : Int) := by omega
                      have z4 : f1 ≤ 4294967296 := by omega
                      have m16 : m ≤ 16 := by have := HKM.out; omega
                      have w1 : IntKind.i64.wrap (m : Int) = (m : Int) := wrap_i64 _ (by omega) (by omega)
                      have w2 : IntKind.i64.wrap (2 * (m : Int)) = 2 * (m : Int) := wrap_i64 _ (by omega) (by omega)
                      have w3 : IntKind.u64.wrap ((q : Int) * 2 ^ (2 * (m : Int)).toNat) = (z : Int) := by rw [show (2 * (m : Int)).toNat = 2 * m by omega, z1, wrap64]; omega
                      have w4 : IntKind.u64.wrap (f1 : Int) = (f1 : Int) := by rw [wrap64]; omega
                      have CALL := Lib.hid call
                      have VS := Lib.hid vs
                      have HQ := Lib.hid hq4
                      clear call vs hz hf1 e4 q1 hF lo lv hL hAq hq hq4
                      go_wp2_with fail
                      refine wp_region_held (S := fun W' => W'.cell? ⟨gV, 0, none⟩ = some (.func (.func 37) #[] #[.pointer (some ⟨bo, 0, none⟩), .pointer (some ⟨bw, 0, none⟩), .pointer (some ⟨gV, 0, none⟩), .pointer (some ⟨gO, 0, none⟩)])) (by kernel_rfl) ?_
                      refine take_run 0 91 (.func (.func 37) #[] #[.pointer (some ⟨bo, 0, none⟩), .pointer (some ⟨bw, 0, none⟩), .pointer (some ⟨gV, 0, none⟩), .pointer (some ⟨gO, 0, none⟩)]) rfl rfl rfl (fun W hW => by go_simp) (by kernel_rfl) (by kernel_rfl) (by kernel_rfl) (fun _ _ _ h => h) hS ?_
                      simp only [Act.put, List.setIfInBounds_toArray, List.set_cons_zero, List.set_cons_succ]
                      refine take_move 1 92 (.tmp 0) _ rfl rfl rfl rfl rfl (by kernel_rfl) (by kernel_rfl) (by kernel_rfl) (fun _ _ _ h => h) hS ?_
                      simp only [Act.put, List.setIfInBounds_toArray, List.set_cons_zero, List.set_cons_succ]
                      refine take_move 2 93 (.tmp 12) _ rfl rfl rfl rfl rfl (by kernel_rfl) (by kernel_rfl) (by kernel_rfl) (fun _ _ _ h => h) hS ?_
                      simp only [Act.put, List.setIfInBounds_toArray, List.set_cons_zero, List.set_cons_succ]
                      refine take_move 3 94 (.tmp 1) _ rfl rfl rfl rfl rfl (by kernel_rfl) (by kernel_rfl) (by kernel_rfl) (fun _ _ _ h => h) hS ?_
                      simp only [Act.put, List.setIfInBounds_toArray, List.set_cons_zero, List.set_cons_succ]
                      refine take_run 4 95 (.int .i64 m) rfl rfl rfl (fun W hW => by go_simp) (by kernel_rfl) (by kernel_rfl) (by kernel_rfl) (fun _ _ _ h => h) hS ?_
                      simp only [Act.put, List.setIfInBounds_toArray, List.set_cons_zero, List.set_cons_succ]
                      refine take_run 5 96 (.int .i64 (2 * (m : Int))) rfl rfl rfl (fun W hW => by go_simp) (by kernel_rfl) (by kernel_rfl) (by kernel_rfl) (fun _ _ _ h => h) hS ?_
                      simp only [Act.put, List.setIfInBounds_toArray, List.set_cons_zero, List.set_cons_succ]
                      refine take_run 6 97 (.int .u64 z) rfl rfl rfl (fun W hW => by go_simp) (by kernel_rfl) (by kernel_rfl) (by kernel_rfl) (fun _ _ _ h => h) hS ?_
                      simp only [Act.put, List.setIfInBounds_toArray, List.set_cons_zero, List.set_cons_succ]
                      refine take_run 7 98 (.int .u64 f1) rfl rfl rfl (fun W hW => by go_simp) (by kernel_rfl) (by kernel_rfl) (by kernel_rfl) (fun _ _ _ h => h) hS ?_
                      simp only [Act.put, List.setIfInBounds_toArray, List.set_cons_zero, List.set_cons_succ]
                      refine take_move 8 99 (.tmp 1) _ rfl rfl rfl rfl rfl (by kernel_rfl) (by kernel_rfl) (by kernel_rfl) (fun _ _ _ h => h) hS ?_
                      simp only [Act.put, List.setIfInBounds_toArray, List.set_cons_zero, List.set_cons_succ]
                      refine take_run 9 100 (.int .i64 m) rfl rfl rfl (fun W hW => by go_simp) (by kernel_rfl) (by kernel_rfl) (by kernel_rfl) (fun _ _ _ h => h) hS ?_
                      simp only [Act.put, List.setIfInBounds_toArray, List.set_cons_zero, List.set_cons_succ]
                      refine wpAnyH_one (i := 10) (by kernel_rfl) rfl rfl (wp_call_val (x := .tmp 91) rfl rfl call37 CALL.out (by simp [Act.eval]) (d := 101) rfl ?_)
                      rintro e w2' ⟨rfl, u', hA'⟩
                      refine ⟨_, rfl, hA'.cell HB.out.vis HB.out.nv, ?_⟩
                      simp only [Act.put, List.setIfInBounds_toArray, List.set_cons_zero, List.set_cons_succ]
                      refine wpAnyH_done (by kernel_rfl) ?_ _
                      have HA' := Lib.hid hA'
                      clear hA' hS w1 w2 w3 w4
                      go_wp2_with fail
                      go_roundw
                      case rel => exact ⟨q + 1, u', HQ.out, by go_num, by rw [VS.out]; exact HA'.out⟩
                      case measure => have := HQ.out; simp [intOf] <;> omega
                    · obtain rfl : q = 4 := by omega
                      have HA4 := Lib.hid hAq
                      clear hAq
                      go_wp2_with fail
                      first | go_end0 | (try simp only [Exit.inBlock, Exit.then]); refine bodyPost_ret (results_none rfl _ _ _) rfl ?_
                      exact ⟨rfl, u, by rw [RV.out]; exact HA4.out⟩
                · skip
                  by_cases p7 : y1 < Y + s - 1
                  · have k0 : ¬ k = 0 := fun e => by have h := HS.out; rw [e] at h; omega
                    obtain ⟨m, hkm⟩ : ∃ m, k = m + 1 := ⟨k - 1, by omega⟩
                    have RV := Lib.hid (show visit rc o k first L = vl rc o m first L 4 by rw [HVE.out, if_neg (by omega), if_pos (by omega), if_neg k0, hkm]; rfl)
                    have HKM := Lib.hid hkm
                    have km : (k : Int) - 1 = (m : Int) := by omega
                    clear hkm k0
                    have i0 : ¬ ((x1 : Int) < (X : Int)) := by omega
                    have j0 : decide ((x1 : Int) < (X : Int)) = false := decide_eq_false i0
                    have n0 : decide (x1 < X) = false := decide_eq_false (by omega)
                    have i1 : ¬ ((y1 : Int) < (Y : Int)) := by omega
                    have j1 : decide ((y1 : Int) < (Y : Int)) = false := decide_eq_false i1
                    have n1 : decide (y1 < Y) = false := decide_eq_false (by omega)
                    have i2 : ¬ ((X : Int) + (s : Int) - 1 < (x0 : Int)) := by omega
                    have j2 : decide ((X : Int) + (s : Int) - 1 < (x0 : Int)) = false := decide_eq_false i2
                    have i3 : ¬ ((Y : Int) + (s : Int) - 1 < (y0 : Int)) := by omega
                    have j3 : decide ((Y : Int) + (s : Int) - 1 < (y0 : Int)) = false := decide_eq_false i3
                    have i4 : ¬ ((X : Int) < (x0 : Int)) := by omega
                    have j4 : decide ((X : Int) < (x0 : Int)) = false := decide_eq_false i4
                    have n4 : decide (X < x0) = false := decide_eq_false (by omega)
                    have i5 : ¬ ((Y : Int) < (y0 : Int)) := by omega
                    have j5 : decide ((Y : Int) < (y0 : Int)) = false := decide_eq_false i5
                    have n5 : decide (Y < y0) = false := decide_eq_false (by omega)
                    have i6 : ¬ ((x1 : Int) < (X : Int) + (s : Int) - 1) := by omega
                    have j6 : decide ((x1 : Int) < (X : Int) + (s : Int) - 1) = false := decide_eq_false i6
                    have i7 : ((y1 : Int) < (Y : Int) + (s : Int) - 1) := by omega
                    have j7 : decide ((y1 : Int) < (Y : Int) + (s : Int) - 1) = true := decide_eq_true i7
                    clear p0 p1 p2 p3 p4 p5 p6 p7
                    go_enter Tryd.func37, Tryd.ntmps37
                    go_wp2_with fail
                    refine HPA.out.mono ?_
                    rintro e w1 ⟨rfl, b1⟩
                    have A1 := HA.out.call b1
                    have d0 := A1.cell HC0.out HB.out.nw
                    have d1 := A1.cell HC1.out HB.out.nw
                    have d2 := A1.cell HC2.out HB.out.nw
                    have d3 := A1.cell HC3.out HB.out.nw
                    have HA1 := Lib.hid A1
                    clear A1 b1 od
                    go_wp2_with fail
                    go_loopw [12, 88] (fun _ cv wr => ∃ (q : Nat) (u : Value), q ≤ 4 ∧ cv = .int .u64 q ∧ AccR V0 gO u (vl rc o m first L q) wr) (fun _ cv _ => 4 - (intOf cv).toNat)
                    case atStart => exact ⟨0, v, by omega, rfl, HA1.out⟩
                    case round =>
                      obtain ⟨q, u, hq, rfl, hAq⟩ := hrel
                      by_cases hq4 : q < 4
                      · have qi : (q : Int) < 4 := by omega
                        obtain ⟨f1, hf1⟩ : ∃ f1, f1 = first + q * 4 ^ m := ⟨_, rfl⟩
                        have e4 : 4 ^ k = 4 * 4 ^ m := by rw [HKM.out, Nat.pow_succ, Nat.mul_comm]
                        have q1 : (q + 1) * 4 ^ m ≤ 4 * 4 ^ m := Nat.mul_le_mul_right _ (by omega)
                        rw [Nat.add_mul, Nat.one_mul] at q1
                        have hF := HF.out
                        rw [e4] at hF
                        have lo := four_le16 o HB.out.o2
                        have lv := length_vl rc o m first L q
                        have hL := HL.out
                        have call := IH.out m HKM.out f1 (vl rc o m first L q) u wr.drew (by have := HK.out; have := HKM.out; omega) (by rw [hf1]; omega) (by rw [hf1]; omega) (bound_vl rc o m first _ L HM.out q (by omega)) (hAq.call (below_drewN (Below.refl _ _) 1))
                        have vs : vl rc o m first L (q + 1) = visit rc o m f1 (vl rc o m first L q) := by rw [vl, hf1]
                        have hS : wr.drew.cell? ⟨gV, 0, none⟩ = some (.func (.func 37) #[] #[.pointer (some ⟨bo, 0, none⟩), .pointer (some ⟨bw, 0, none⟩), .pointer (some ⟨gV, 0, none⟩), .pointer (some ⟨gO, 0, none⟩)]) := hAq.cell HB.out.vis HB.out.nv
                        obtain ⟨z, hz⟩ : ∃ z, z = q * 4 ^ m := ⟨_, rfl⟩
                        have z1 : (q : Int) * 2 ^ (2 * m) = (z : Int) := by rw [hz, int_four_pow]; simp
                        have z2 : z ≤ 4294967296 := by omega
                        have z3 : (first : Int) + (z : Int) = (f1 : Int) := by omega
                        have z4 : f1 ≤ 4294967296 := by omega
                        have m16 : m ≤ 16 := by have := HKM.out; omega
                        have w1 : IntKind.i64.wrap (m : Int) = (m : Int) := wrap_i64 _ (by omega) (by omega)
                        have w2 : IntKind.i64.wrap (2 * (m : Int)) = 2 * (m : Int) := wrap_i64 _ (by omega) (by omega)
                        have w3 : IntKind.u64.wrap ((q : Int) * 2 ^ (2 * (m : Int)).toNat) = (z : Int) := by rw [show (2 * (m : Int)).toNat = 2 * m by omega, z1, wrap64]; omega
                        have w4 : IntKind.u64.wrap (f1 : Int) = (f1 : Int) := by rw [wrap64]; omega
                        have CALL := Lib.hid call
                        have VS := Lib.hid vs
                        have HQ := Lib.hid hq4
                        clear call vs hz hf1 e4 q1 hF lo lv hL hAq hq hq4
                        go_wp2_with fail
                        refine wp_region_held (S := fun W' => W'.cell? ⟨gV, 0, none⟩ = some (.func (.func 37) #[] #[.pointer (some ⟨bo, 0, none⟩), .pointer (some ⟨bw, 0, none⟩), .pointer (some ⟨gV, 0, none⟩), .pointer (some ⟨gO, 0, none⟩)])) (by kernel_rfl) ?_
                        refine take_run 0 91 (.func (.func 37) #[] #[.pointer (some ⟨bo, 0, none⟩), .pointer (some ⟨bw, 0, none⟩), .pointer (some ⟨gV, 0, none⟩), .pointer (some ⟨gO, 0, none⟩)]) rfl rfl rfl (fun W hW => by go_simp) (by kernel_rfl) (by kernel_rfl) (by kernel_rfl) (fun _ _ _ h => h) hS ?_
                        simp only [Act.put, List.setIfInBounds_toArray, List.set_cons_zero, List.set_cons_succ]
                        refine take_move 1 92 (.tmp 0) _ rfl rfl rfl rfl rfl (by kernel_rfl) (by kernel_rfl) (by kernel_rfl) (fun _ _ _ h => h) hS ?_
                        simp only [Act.put, List.setIfInBounds_toArray, List.set_cons_zero, List.set_cons_succ]
                        refine take_move 2 93 (.tmp 12) _ rfl rfl rfl rfl rfl (by kernel_rfl) (by kernel_rfl) (by kernel_rfl) (fun _ _ _ h => h) hS ?_
                        simp only [Act.put, List.setIfInBounds_toArray, List.set_cons_zero, List.set_cons_succ]
                        refine take_move 3 94 (.tmp 1) _ rfl rfl rfl rfl rfl (by kernel_rfl) (by kernel_rfl) (by kernel_rfl) (fun _ _ _ h => h) hS ?_
                        simp only [Act.put, List.setIfInBounds_toArray, List.set_cons_zero, List.set_cons_succ]
                        refine take_run 4 95 (.int .i64 m) rfl rfl rfl (fun W hW => by go_simp) (by kernel_rfl) (by kernel_rfl) (by kernel_rfl) (fun _ _ _ h => h) hS ?_
                        simp only [Act.put, List.setIfInBounds_toArray, List.set_cons_zero, List.set_cons_succ]
                        refine take_run 5 96 (.int .i64 (2 * (m : Int))) rfl rfl rfl (fun W hW => by go_simp) (by kernel_rfl) (by kernel_rfl) (by kernel_rfl) (fun _ _ _ h => h) hS ?_
                        simp only [Act.put, List.setIfInBounds_toArray, List.set_cons_zero, List.set_cons_succ]
                        refine take_run 6 97 (.int .u64 z) rfl rfl rfl (fun W hW => by go_simp) (by kernel_rfl) (by kernel_rfl) (by kernel_rfl) (fun _ _ _ h => h) hS ?_
                        simp only [Act.put, List.setIfInBounds_toArray, List.set_cons_zero, List.set_cons_succ]
                        refine take_run 7 98 (.int .u64 f1) rfl rfl rfl (fun W hW => by go_simp) (by kernel_rfl) (by kernel_rfl) (by kernel_rfl) (fun _ _ _ h => h) hS ?_
                        simp only [Act.put, List.setIfInBounds_toArray, List.set_cons_zero, List.set_cons_succ]
                        refine take_move 8 99 (.tmp 1) _ rfl rfl rfl rfl rfl (by kernel_rfl) (by kernel_rfl) (by kernel_rfl) (fun _ _ _ h => h) hS ?_
                        simp only [Act.put, List.setIfInBounds_toArray, List.set_cons_zero, List.set_cons_succ]
                        refine take_run 9 100 (.int .i64 m) rfl rfl rfl (fun W hW => by go_simp) (by kernel_rfl) (by kernel_rfl) (by kernel_rfl) (fun _ _ _ h => h) hS ?_
                        simp only [Act.put, List.setIfInBounds_toArray, List.set_cons_zero, List.set_cons_succ]
                        refine wpAnyH_one (i := 10) (by kernel_rfl) rfl rfl (wp_call_val (x := .tmp 91) rfl rfl call37 CALL.out (by simp [Act.eval]) (d := 101) rfl ?_)
                        rintro e w2' ⟨rfl, u', hA'⟩
                        refine ⟨_, rfl, hA'.cell HB.out.vis HB.out.nv, ?_⟩
                        simp only [Act.put, List.setIfInBounds_toArray, List.set_cons_zero, List.set_cons_succ]
                        refine wpAnyH_done (by kernel_rfl) ?_ _
                        have HA' := Lib.hid hA'
                        clear hA' hS w1 w2 w3 w4
                        go_wp2_with fail
                        go_roundw
                        case rel => exact ⟨q + 1, u', HQ.out, by go_num, by rw [VS.out]; exact HA'.out⟩
                        case measure => have := HQ.out; simp [intOf] <;> omega
                      · obtain rfl : q = 4 := by omega
                        have HA4 := Lib.hid hAq
                        clear hAq
                        go_wp2_with fail
                        first | go_end0 | (try simp only [Exit.inBlock, Exit.then]); refine bodyPost_ret (results_none rfl _ _ _) rfl ?_
                        exact ⟨rfl, u, by rw [RV.out]; exact HA4.out⟩
                  · skip
                    have VF : visit rc o k first L = add first (first + 4 ^ k - 1) L := by rw [HVE.out, if_neg (by omega), if_neg (by omega)]
                    have i0 : ¬ ((x1 : Int) < (X : Int)) := by omega
                    have j0 : decide ((x1 : Int) < (X : Int)) = false := decide_eq_false i0
                    have n0 : decide (x1 < X) = false := decide_eq_false (by omega)
                    have i1 : ¬ ((y1 : Int) < (Y : Int)) := by omega
                    have j1 : decide ((y1 : Int) < (Y : Int)) = false := decide_eq_false i1
                    have n1 : decide (y1 < Y) = false := decide_eq_false (by omega)
                    have i2 : ¬ ((X : Int) + (s : Int) - 1 < (x0 : Int)) := by omega
                    have j2 : decide ((X : Int) + (s : Int) - 1 < (x0 : Int)) = false := decide_eq_false i2
                    have i3 : ¬ ((Y : Int) + (s : Int) - 1 < (y0 : Int)) := by omega
                    have j3 : decide ((Y : Int) + (s : Int) - 1 < (y0 : Int)) = false := decide_eq_false i3
                    have i4 : ¬ ((X : Int) < (x0 : Int)) := by omega
                    have j4 : decide ((X : Int) < (x0 : Int)) = false := decide_eq_false i4
                    have n4 : decide (X < x0) = false := decide_eq_false (by omega)
                    have i5 : ¬ ((Y : Int) < (y0 : Int)) := by omega
                    have j5 : decide ((Y : Int) < (y0 : Int)) = false := decide_eq_false i5
                    have n5 : decide (Y < y0) = false := decide_eq_false (by omega)
                    have i6 : ¬ ((x1 : Int) < (X : Int) + (s : Int) - 1) := by omega
                    have j6 : decide ((x1 : Int) < (X : Int) + (s : Int) - 1) = false := decide_eq_false i6
                    have i7 : ¬ ((y1 : Int) < (Y : Int) + (s : Int) - 1) := by omega
                    have j7 : decide ((y1 : Int) < (Y : Int) + (s : Int) - 1) = false := decide_eq_false i7
                    clear p0 p1 p2 p3 p4 p5 p6 p7
                    obtain ⟨sq, hsq⟩ : ∃ sq, sq = 4 ^ k := ⟨_, rfl⟩
                    have t2 : (2 : Int) ^ (2 * k) = (sq : Int) := by rw [hsq]; exact int_four_pow k
                    have sq0 : 0 < sq := by rw [hsq]; exact four_pos k
                    have hF := HF.out
                    rw [← hsq] at hF VF
                    have lo := four_le16 o HB.out.o2
                    obtain ⟨lst, hlst⟩ : ∃ l, l = first + sq - 1 := ⟨_, rfl⟩
                    rw [← hlst] at VF
                    have l1 : (first : Int) + (sq : Int) - 1 = (lst : Int) := by omega
                    have f32 : first + sq ≤ 4294967296 := by omega
                    have LL : L.length ≤ 4294967296 := by have := HL.out; omega
                    clear hF lo hlst hsq
                    rcases HA.out.1.2 with ⟨hv, h0⟩ | ⟨g, cap, cur, hv, hbg, hg, hnc, _⟩
                    · subst hv
                      have hnil : L = [] := List.eq_nil_of_length_eq_zero h0
                      have RV := Lib.hid (show visit rc o k first L = L ++ [(first, lst)] by rw [VF, add, if_neg (by rw [h0]; omega)])
                      clear VF h0 hnil
                      go_enter Tryd.func37, Tryd.ntmps37
                      go_wp2_with fail
                      refine HPA.out.mono ?_
                      rintro e w1 ⟨rfl, b1⟩
                      have A1 := HA.out.call b1
                      have d0 := A1.cell HC0.out HB.out.nw
                      have d1 := A1.cell HC1.out HB.out.nw
                      have d2 := A1.cell HC2.out HB.out.nw
                      have d3 := A1.cell HC3.out HB.out.nw
                      have v0 := A1.2.1.cell 0
                      simp only [List.getElem?_toArray, List.getElem?_cons_zero] at v0
                      have HA1 := Lib.hid A1
                      clear A1 b1 od
                      go_wp2_with (first | ((with_reducible show wpList _ _ _ (Oper.mk _ (Op.call _) _ _ _ _ :: _) _ _); (refine wpList_pushG rfl (.tmp 130) (.tmp 134) rfl V0.heap.size (.slice none 0 0) L rfl w1 _ (first, lst) rfl HA1.out.1 HA1.out.2.2.size w1.heap.size rfl rfl (by omega) (fun v' w' hv' hg => ?_); obtain ⟨hrow, hAF⟩ := AccR.push HA1.out HB.out.lt ((Below.refl _ _).alloc (Nat.le_refl _) _) hv' hg; obtain ⟨ge, ce, ev, _⟩ := World.ownsRow.form hv' (by simp); subst ev; have z3 := hrow.cell 0; have z4 := hrow.frozen 0; have HAF := Lib.hid hAF; clear hrow hAF hv' hg)))
                      first | go_end0 | (try simp only [Exit.inBlock, Exit.then]); refine bodyPost_ret (results_none rfl _ _ _) rfl ?_
                      refine ⟨rfl, .slice (some ⟨ge, 0, none⟩) (L ++ [(first, lst)]).length ce, ?_⟩
                      rw [RV.out]
                      have h := HAF.out
                      first | exact h | (simp only [List.length_append, List.length_cons, List.length_nil, Nat.zero_add] at h ⊢; exact h)
                    · subst hv
                      by_cases hn0 : L.length = 0
                      · have hnil : L = [] := List.eq_nil_of_length_eq_zero hn0
                        have RV := Lib.hid (show visit rc o k first L = L ++ [(first, lst)] by rw [VF, add, if_neg (by rw [hn0]; omega)])
                        clear VF hn0 hg hnc
                        subst hnil
                        go_enter Tryd.func37, Tryd.ntmps37
                        go_wp2_with fail
                        refine HPA.out.mono ?_
                        rintro e w1 ⟨rfl, b1⟩
                        have A1 := HA.out.call b1
                        have d0 := A1.cell HC0.out HB.out.nw
                        have d1 := A1.cell HC1.out HB.out.nw
                        have d2 := A1.cell HC2.out HB.out.nw
                        have d3 := A1.cell HC3.out HB.out.nw
                        have v0 := A1.2.1.cell 0
                        simp only [List.getElem?_toArray, List.getElem?_cons_zero] at v0
                        have HA1 := Lib.hid A1
                        have HA1 := Lib.hid A1
                        clear A1 b1 od
                        go_wp2_with (first | ((with_reducible show wpList _ _ _ (Oper.mk _ (Op.call _) _ _ _ _ :: _) _ _); (refine wpList_pushG rfl (.tmp 130) (.tmp 134) rfl V0.heap.size (.slice (some ⟨g, 0, none⟩) 0 cap) ([] : List (Nat × Nat)) rfl w1 _ (first, lst) rfl HA1.out.1 HA1.out.2.2.size w1.heap.size rfl rfl (by simp) (fun v' w' hv' hg => ?_); obtain ⟨hrow, hAF⟩ := AccR.push HA1.out HB.out.lt ((Below.refl _ _).alloc (Nat.le_refl _) _) hv' hg; obtain ⟨ge, ce, ev, _⟩ := World.ownsRow.form hv' (by simp); subst ev; have z3 := hrow.cell 0; have z4 := hrow.frozen 0; have HAF := Lib.hid hAF; clear hrow hAF hv' hg)))
                        first | go_end0 | (try simp only [Exit.inBlock, Exit.then]); refine bodyPost_ret (results_none rfl _ _ _) rfl ?_
                        refine ⟨rfl, .slice (some ⟨ge, 0, none⟩) 1 ce, ?_⟩
                        rw [RV.out]
                        have h := HAF.out
                        first | exact h | (simp only [List.length_append, List.length_cons, List.length_nil, Nat.zero_add] at h ⊢; exact h)
                      · obtain ⟨nm, hnm⟩ : ∃ nm, nm = L.length - 1 := ⟨_, rfl⟩
                        obtain ⟨⟨la, lb⟩, hlab⟩ : ∃ p, p = lastR L := ⟨_, rfl⟩
                        have hgl : L.getD nm (0, 0) = (la, lb) := by rw [hlab, lastR, ← hnm]
                        have lbM : lb ≤ 4294967296 := by
                          have hmem : L.getD nm (0, 0) ∈ L := by rw [List.getD, List.getElem?_eq_getElem (by omega)]; exact List.getElem_mem _
                          have := HM.out _ hmem
                          rw [hgl] at this
                          exact this
                        have hgt : 0 < L.length := by omega
                        have ni : (0 : Int) < (L.length : Int) := by omega
                        have nmi : (L.length : Int) - 1 = (nm : Int) := by omega
                        have nml : (nm : Int) < (L.length : Int) := by omega
                        have nmL : Hid (nm < L.length) := Lib.hid (by omega)
                        have HGL := Lib.hid hgl
                        by_cases hadj : lb + 1 = first
                        · have RV := Lib.hid (show visit rc o k first L = L.set nm ((L.getD nm (0, 0)).1, lst) by rw [VF, add, if_pos ⟨hgt, by rw [← hlab]; exact hadj⟩, ← hlab, hgl, ← hnm])
                          have eqi : (lb : Int) + 1 = (first : Int) := by omega
                          clear VF hg hnc hnm hlab hgl hgt hadj
                          go_enter Tryd.func37, Tryd.ntmps37
                          go_wp2_with fail
                          refine HPA.out.mono ?_
                          rintro e w1 ⟨rfl, b1⟩
                          have A1 := HA.out.call b1
                          have d0 := A1.cell HC0.out HB.out.nw
                          have d1 := A1.cell HC1.out HB.out.nw
                          have d2 := A1.cell HC2.out HB.out.nw
                          have d3 := A1.cell HC3.out HB.out.nw
                          have v0 := A1.2.1.cell 0
                          simp only [List.getElem?_toArray, List.getElem?_cons_zero] at v0
                          have vl0 := (A1.1.cellAt (nm * 2 + 1) (by have := nmL.out; omega)).trans (get_rcells L nm 1 nmL.out (by decide))
                          rw [HGL.out] at vl0
                          have vl1 : w1.cell? ⟨g, nm * 2 + 1, none⟩ = some (.int .u64 lb) := vl0
                          have vfr : w1.frozen? ⟨g, nm * 2 + 1, none⟩ = false := A1.1.frozenAt _
                          clear vl0
                          have HA1 := Lib.hid A1
                          clear A1 b1 od
                          go_wp2_with fail
                          first | go_end0 | (try simp only [Exit.inBlock, Exit.then]); refine bodyPost_ret (results_none rfl _ _ _) rfl ?_
                          exact ⟨rfl, _, by rw [RV.out]; exact HA1.out.setLast HB.out.lt rfl nmL.out⟩
                        · have RV := Lib.hid (show visit rc o k first L = L ++ [(first, lst)] by rw [VF, add, if_neg (by rw [← hlab]; intro h; exact hadj h.2)])
                          have neb : ((lb : Int) + 1 == (first : Int)) = false := beq_eq_false_iff_ne.2 (by omega)
                          clear VF hg hnc hnm hlab hgl hgt hadj
                          go_enter Tryd.func37, Tryd.ntmps37
                          go_wp2_with fail
                          refine HPA.out.mono ?_
                          rintro e w1 ⟨rfl, b1⟩
                          have A1 := HA.out.call b1
                          have d0 := A1.cell HC0.out HB.out.nw
                          have d1 := A1.cell HC1.out HB.out.nw
                          have d2 := A1.cell HC2.out HB.out.nw
                          have d3 := A1.cell HC3.out HB.out.nw
                          have v0 := A1.2.1.cell 0
                          simp only [List.getElem?_toArray, List.getElem?_cons_zero] at v0
                          have vl0 := (A1.1.cellAt (nm * 2 + 1) (by have := nmL.out; omega)).trans (get_rcells L nm 1 nmL.out (by decide))
                          rw [HGL.out] at vl0
                          have vl1 : w1.cell? ⟨g, nm * 2 + 1, none⟩ = some (.int .u64 lb) := vl0
                          have vfr : w1.frozen? ⟨g, nm * 2 + 1, none⟩ = false := A1.1.frozenAt _
                          clear vl0
                          have HA1 := Lib.hid A1
                          clear A1 b1 od
                          go_wp2_with (first | ((with_reducible show wpList _ _ _ (Oper.mk _ (Op.call _) _ _ _ _ :: _) _ _); (refine wpList_pushG rfl (.tmp 130) (.tmp 134) rfl V0.heap.size (.slice (some ⟨g, 0, none⟩) L.length cap) L rfl w1 _ (first, lst) rfl HA1.out.1 HA1.out.2.2.size w1.heap.size rfl rfl (by omega) (fun v' w' hv' hg => ?_); obtain ⟨hrow, hAF⟩ := AccR.push HA1.out HB.out.lt ((Below.refl _ _).alloc (Nat.le_refl _) _) hv' hg; obtain ⟨ge, ce, ev, _⟩ := World.ownsRow.form hv' (by simp); subst ev; have z3 := hrow.cell 0; have z4 := hrow.frozen 0; have HAF := Lib.hid hAF; clear hrow hAF hv' hg)))
                          first | go_end0 | (try simp only [Exit.inBlock, Exit.then]); refine bodyPost_ret (results_none rfl _ _ _) rfl ?_
                          refine ⟨rfl, .slice (some ⟨ge, 0, none⟩) (L ++ [(first, lst)]).length ce, ?_⟩
                          rw [RV.out]
                          have h := HAF.out
                          first | exact h | (simp only [List.length_append, List.length_cons, List.length_nil, Nat.zero_add] at h ⊢; exact h)

theorem visit_any (V0 : World) (rc : Rect) (o gO gV bo bw : Nat) (B : Base V0 rc o gO gV bo bw) : ∀ k, Visits V0 rc o gO gV bo bw k
  | 0 => visit_step V0 rc o gO gV bo bw B 0 (fun m h => absurd h (by omega))
  | k + 1 => visit_step V0 rc o gO gV bo bw B (k + 1) (fun m h => by
      obtain rfl : k = m := by omega
      exact visit_any V0 rc o gO gV bo bw B k)
end Go.Proofs.YtnpkbjekodjcjaaDoor
