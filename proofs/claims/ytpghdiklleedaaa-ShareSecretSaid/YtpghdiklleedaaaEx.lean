/- The contract of explain. -/
import Derived.Test.YtpghdiklleedaaaAt
set_option linter.all false
namespace Go.Proofs.Ytpghdiklleedaaa
open Go.RowKit Go.Fen Gf
set_option maxHeartbeats 400000

theorem BufB.set {B g n cap : Nat} {l : List (BitVec 8)} {W0 w : World} (h : BufB B (.slice (some ⟨g, 0, none⟩) n cap) l W0 w) (j : Nat) (b : BitVec 8) : BufB B (.slice (some ⟨g, 0, none⟩) n cap) (l.set j b) W0 (w.setCell ⟨g, j, none⟩ (.int .u8 b.toNat)) := by
  obtain ⟨⟨hl, ho⟩, hb, hs⟩ := h
  rcases ho with ⟨hv, _⟩ | ⟨g', cap', cur, hv, hbg, hg, hnc, hm, hsz, ht⟩
  · cases hv
  · obtain ⟨rfl, rfl, rfl⟩ : g' = g ∧ l.length = n ∧ cap' = cap := by
      have := Value.slice.inj hv
      simp only [Option.some.injEq, Addr.mk.injEq, and_true] at this
      exact ⟨this.1.symm, this.2.1.symm, this.2.2.symm⟩
    refine ⟨⟨by simp [bvals], .inr ⟨g', cap', cur.setIfInBounds j (.int .u8 b.toNat), by rw [List.length_set], hbg, (Row.set (w := w) (t := 5) hg j _), by rw [List.length_set]; exact hnc, hm, by simpa using hsz, ?_⟩⟩, hb.setCell (p := ⟨g', j, none⟩) hbg _, Nat.le_trans hs (by simp [World.setCell])⟩
    rw [List.length_set, Array.toList_setIfInBounds, List.take_set, ht]
    simp [bvals, List.map_set]
theorem BufB.form {B : Nat} {v : Value} {l : List (BitVec 8)} {W0 w : World} (h : BufB B v l W0 w) (hn : 0 < l.length) : ∃ g cap, v = .slice (some ⟨g, 0, none⟩) l.length cap ∧ B ≤ g ∧ g < w.heap.size ∧ l.length ≤ cap := Buf.form h hn
theorem BufB.cells {B g n cap : Nat} {l : List (BitVec 8)} {W0 w : World} (h : BufB B (.slice (some ⟨g, 0, none⟩) n cap) l W0 w) (j : Nat) (hj : j < l.length) : w.cell? ⟨g, j, none⟩ = some (.int .u8 (l.getD j 0#8).toNat) ∧ w.frozen? ⟨g, j, none⟩ = false := by
  have ho := h.1
  have hn : n = l.length := by
    rcases ho.2 with ⟨hv, _⟩ | ⟨g', cap', cur, hv, _⟩
    · cases hv
    · exact (Value.slice.inj hv).2.1
  subst hn
  exact ⟨(ho.cellAt j (by omega)).trans (get_bvals l j hj), ho.frozenAt j⟩

theorem BufB.alc' {B : Nat} {v : Value} {l : List (BitVec 8)} {W0 w : World} (h : BufB B v l W0 w) (o : Obj) : BufB B v l W0 (w.alloc o) := Buf.alloc h o
/-- what explain's loops keep -/
structure Ex (B : Nat) (W0 : World) (go : Nat) (O : List (BitVec 8)) (vf : Value) (F : List (BitVec 8)) (gb : Nat) (Ba : List (BitVec 8)) (w : World) : Prop where
  out : Row w go 5 (bcells O)
  f : BufB B vf F W0 w
  base : Row w gb 5 (bcells Ba)
  ho : B ≤ go
  hb : B ≤ gb
  ne1 : vf.ownBlock ≠ some go
  ne2 : vf.ownBlock ≠ some gb
  ne3 : go ≠ gb
section
variable {B go gb : Nat} {W0 w w' : World} {O F Ba : List (BitVec 8)} {vf : Value}
theorem Ex.call (h : Ex B W0 go O vf F gb Ba w) (hb : Below w.heap.size w w') : Ex B W0 go O vf F gb Ba w' :=
  ⟨h.out.below hb h.out.lt, h.f.call hb, h.base.below hb h.base.lt, h.ho, h.hb, h.ne1, h.ne2, h.ne3⟩
theorem Ex.drewN (h : Ex B W0 go O vf F gb Ba w) (n : Nat) : Ex B W0 go O vf F gb Ba (w.drewN n) := h.call (below_drewN (Below.refl _ _) n)
theorem Ex.alloc (h : Ex B W0 go O vf F gb Ba w) (o : Obj) : Ex B W0 go O vf F gb Ba (w.alloc o) := h.call ((Below.refl _ _).alloc (Nat.le_refl _) o)
theorem Ex.setF {gf n cap : Nat} (h : Ex B W0 go O (.slice (some ⟨gf, 0, none⟩) n cap) F gb Ba w) (j : Nat) (b : BitVec 8) : Ex B W0 go O (.slice (some ⟨gf, 0, none⟩) n cap) (F.set j b) gb Ba (w.setCell ⟨gf, j, none⟩ (.int .u8 b.toNat)) :=
  ⟨h.out.setOther (fun e => h.ne1 (by rw [e]; rfl)) _, h.f.set j b, h.base.setOther (fun e => h.ne2 (by rw [e]; rfl)) _, h.ho, h.hb, h.ne1, h.ne2, h.ne3⟩
theorem Ex.pushF {v' : Value} {o : Obj} {b : BitVec 8} (h : Ex B W0 go O vf F gb Ba w) (hv : BufB B v' (F ++ [b]) W0 w') (hg : (w.alloc o).grownBy w' vf.ownBlock) (hown : v'.ownBlock = vf.ownBlock ∨ v'.ownBlock = some (w.alloc o).heap.size) : Ex B W0 go O v' (F ++ [b]) gb Ba w' := by
  have ho := h.out.alloc o
  have hb := h.base.alloc o
  refine ⟨ho.grown hg (fun e => h.ne1 e.symm), hv, hb.grown hg (fun e => h.ne2 e.symm), h.ho, h.hb, ?_, ?_, h.ne3⟩
  · rcases hown with e | e
    · rw [e]; exact h.ne1
    · rw [e]; intro e2; have := Option.some.inj e2; have := ho.lt; omega
  · rcases hown with e | e
    · rw [e]; exact h.ne2
    · rw [e]; intro e2; have := Option.some.inj e2; have := hb.lt; omega
theorem Ex.setO (h : Ex B W0 go O vf F gb Ba w) (j : Nat) (b : BitVec 8) : Ex B W0 go (O.set j b) vf F gb Ba (w.setCell ⟨go, j, none⟩ (.int .u8 b.toNat)) :=
  ⟨by rw [← set_bcells]; exact h.out.set j _, ⟨owns_grown h.f.1 (grown_set (grown_refl w (some go)) j _) (.inl h.ne1), h.f.2.1.setCell (p := ⟨go, j, none⟩) h.ho _, Nat.le_trans h.f.2.2 (by simp [World.setCell])⟩, h.base.setOther (fun e => h.ne3 e.symm) _, h.ho, h.hb, h.ne1, h.ne2, h.ne3⟩
theorem Ex.setX {gn : Nat} (h : Ex B W0 go O vf F gb Ba w) (hn : B ≤ gn) (n1 : vf.ownBlock ≠ some gn) (n2 : go ≠ gn) (n3 : gb ≠ gn) (j : Nat) (v : Value) : Ex B W0 go O vf F gb Ba (w.setCell ⟨gn, j, none⟩ v) :=
  ⟨h.out.setOther n2 _, ⟨owns_grown h.f.1 (grown_set (grown_refl w (some gn)) j _) (.inl n1), h.f.2.1.setCell (p := ⟨gn, j, none⟩) hn _, Nat.le_trans h.f.2.2 (by simp [World.setCell])⟩, h.base.setOther n3 _, h.ho, h.hb, h.ne1, h.ne2, h.ne3⟩
theorem Ex.rebase {gn : Nat} {Bn : List (BitVec 8)} (h : Ex B W0 go O vf F gb Ba w) (hr : Row w gn 5 (bcells Bn)) (hn : B ≤ gn) (n1 : vf.ownBlock ≠ some gn) (n2 : go ≠ gn) : Ex B W0 go O vf F gn Bn w :=
  ⟨h.out, h.f, hr, h.ho, hn, h.ne1, n1, n2⟩
end

/-! ### plainly: what the rounds make of f and base -/
theorem nwF_list (D : Dat) (c : BitVec 8) (i k : Nat) : nwF D c i (k + 1) = (List.range (k + 2)).map fun t => (nwF D c i k).getD t 0#8 ^^^ mul (nwC D i k (nwF D c i k)) ((nwB D k).getD t 0#8) := by
  refine ext_bytes _ _ (by rw [length_nwF]; simp) fun t ht => ?_
  rw [length_nwF] at ht
  rw [nwF, getD_padd, getD_pscale]
  simp [List.getD, ht]
theorem push_zero (F : List (BitVec 8)) (n : Nat) (hn : F.length + 1 = n) : F ++ [0#8] = (List.range n).map fun t => F.getD t 0#8 := by
  refine ext_bytes _ _ (by simp [hn]) fun t ht => ?_
  simp at ht
  by_cases h : t < F.length
  · simp [List.getD, List.getElem?_append, h, show t < n by omega]
  · have e : t = F.length := by omega
    subst e
    simp [List.getD, List.getElem?_append, show F.length < n by omega]
/-- the next base after j rounds -/
def nx (x : BitVec 8) (b : List (BitVec 8)) (N j : Nat) : List (BitVec 8) := (List.range N).map fun t => (if t < j then mul x (b.getD t 0#8) else 0#8) ^^^ (if 1 ≤ t ∧ t ≤ j then b.getD (t - 1) 0#8 else 0#8)
theorem length_nx (x : BitVec 8) (b : List (BitVec 8)) (N j : Nat) : (nx x b N j).length = N := by simp [nx]
theorem nx_zero (x : BitVec 8) (b : List (BitVec 8)) (N : Nat) : nx x b N 0 = List.replicate N 0#8 := by
  apply List.ext_getElem
  · simp [nx]
  · intro i h1 h2
    simp only [nx, List.getElem_map, List.getElem_range, List.getElem_replicate]
    rw [if_neg (by omega), if_neg (by omega)]; rfl
theorem nx_get (x : BitVec 8) (b : List (BitVec 8)) (N j t : Nat) (ht : t < N) : (nx x b N j).getD t 0#8 = (if t < j then mul x (b.getD t 0#8) else 0#8) ^^^ (if 1 ≤ t ∧ t ≤ j then b.getD (t - 1) 0#8 else 0#8) := by
  simp only [nx, List.getD, List.getElem?_map, List.getElem?_range ht, Option.map_some, Option.getD_some]
theorem getD_setB (l : List (BitVec 8)) (i t : Nat) (v : BitVec 8) (hi : i < l.length) : (l.set i v).getD t 0#8 = if i = t then v else l.getD t 0#8 := by
  simp only [List.getD, List.getElem?_set]
  split
  · rename_i e; subst e; simp [hi]
  · rfl
theorem nx_succ (x : BitVec 8) (b : List (BitVec 8)) (N j : Nat) (hj : j + 1 < N) : nx x b N (j + 1) = ((nx x b N j).set j ((nx x b N j).getD j 0#8 ^^^ mul x (b.getD j 0#8))).set (j + 1) (((nx x b N j).set j ((nx x b N j).getD j 0#8 ^^^ mul x (b.getD j 0#8))).getD (j + 1) 0#8 ^^^ b.getD j 0#8) := by
  have hl := length_nx x b N j
  refine ext_bytes _ _ (by simp [length_nx]) fun t ht => ?_
  rw [length_nx] at ht
  have g0 := nx_get x b N (j + 1) t ht
  have g1 := nx_get x b N j t ht
  have g2 := nx_get x b N j (j + 1) hj
  have s1 := fun v => getD_setB (nx x b N j) j t v (by rw [hl]; omega)
  have s2 := fun v => getD_setB (nx x b N j) j (j + 1) v (by rw [hl]; omega)
  have s3 := fun u v => getD_setB ((nx x b N j).set j u) (j + 1) t v (by rw [List.length_set, hl]; exact hj)
  rw [s3, s2, s1, g0]
  rcases (show t = j ∨ t = j + 1 ∨ t < j ∨ j + 1 < t by omega) with h | h | h | h
  · subst h
    rw [g1, if_neg (show ¬ t + 1 = t by omega), if_pos (rfl : t = t), if_pos (show t < t + 1 by omega), if_neg (show ¬ t < t by omega)]
    by_cases h0 : 1 ≤ t
    · rw [if_pos (⟨h0, by omega⟩ : 1 ≤ t ∧ t ≤ t + 1), if_pos (⟨h0, by omega⟩ : 1 ≤ t ∧ t ≤ t)]; simp [BitVec.xor_comm]
    · rw [if_neg (show ¬ (1 ≤ t ∧ t ≤ t + 1) by omega), if_neg (show ¬ (1 ≤ t ∧ t ≤ t) by omega)]; simp
  · subst h
    rw [g2, if_pos (rfl : j + 1 = j + 1), if_neg (show ¬ j = j + 1 by omega), if_neg (show ¬ j + 1 < j + 1 by omega), if_pos (⟨by omega, by omega⟩ : 1 ≤ j + 1 ∧ j + 1 ≤ j + 1), if_neg (show ¬ j + 1 < j by omega), if_neg (show ¬ (1 ≤ j + 1 ∧ j + 1 ≤ j) by omega)]
    simp
  · rw [g1, if_neg (show ¬ j + 1 = t by omega), if_neg (show ¬ j = t by omega), if_pos (show t < j + 1 by omega), if_pos h]
    by_cases h0 : 1 ≤ t
    · rw [if_pos (⟨h0, by omega⟩ : 1 ≤ t ∧ t ≤ j + 1), if_pos (⟨h0, by omega⟩ : 1 ≤ t ∧ t ≤ j)]
    · rw [if_neg (show ¬ (1 ≤ t ∧ t ≤ j + 1) by omega), if_neg (show ¬ (1 ≤ t ∧ t ≤ j) by omega)]
  · rw [g1, if_neg (show ¬ j + 1 = t by omega), if_neg (show ¬ j = t by omega), if_neg (show ¬ t < j + 1 by omega), if_neg (show ¬ t < j by omega), if_neg (show ¬ (1 ≤ t ∧ t ≤ j + 1) by omega), if_neg (show ¬ (1 ≤ t ∧ t ≤ j) by omega)]
theorem nx_end (D : Dat) (k : Nat) : nx (dX D k) (nwB D k) (k + 3) (k + 2) = nwB D (k + 1) := by
  refine ext_bytes _ _ (by rw [length_nx, length_nwB]) fun t ht => ?_
  rw [length_nx] at ht
  rw [nx_get _ _ _ _ _ ht, nwB, getD_padd, getD_pscale]
  have hl := length_nwB D k
  have e1 : (if t < k + 2 then mul (dX D k) ((nwB D k).getD t 0#8) else 0#8) = mul (dX D k) ((nwB D k).getD t 0#8) := by
    split
    · rfl
    · have : (nwB D k).getD t 0#8 = 0#8 := by rw [List.getD, List.getElem?_eq_none (by omega)]; rfl
      rw [this, mul_zero]
  rw [e1]
  congr 1
  cases t with
  | zero => rw [if_neg (by omega)]; rfl
  | succ t => rw [if_pos ⟨by omega, by omega⟩]; simp
/-- entry t of the random bytes -/
def xo (s : List (BitVec 8)) (D : Dat) (m t : Nat) : BitVec 8 := (nwF D (s.getD (t / m) 0#8) (t / m) D.length).getD (t % m + 1) 0#8
theorem explL_fill (s : List (BitVec 8)) (D : Dat) (need : Nat) : explL s D need = fillB (xo s D (need - 1)) (s.length * (need - 1)) (s.length * (need - 1)) := (fillB_all _ _).symm
theorem xo_at (s : List (BitVec 8)) (D : Dat) (m i j : Nat) (hj : j < m) : xo s D m (i * m + j) = (nwF D (s.getD i 0#8) i D.length).getD (j + 1) 0#8 := by
  have h2 : (i * m + j) / m = i := by rw [Nat.mul_comm, Nat.mul_add_div (by omega), Nat.div_eq_of_lt hj]; omega
  have h3 : (i * m + j) % m = j := by rw [Nat.mul_comm, Nat.mul_add_mod, Nat.mod_eq_of_lt hj]
  rw [xo, h2, h3]
theorem fill_skip (s : List (BitVec 8)) (D : Dat) (m n i : Nat) (hK : D.length ≤ m) : fillB (xo s D m) n (i * m + D.length) = fillB (xo s D m) n ((i + 1) * m) := by
  apply List.map_congr_left
  intro t _
  rw [Nat.add_mul, Nat.one_mul]
  by_cases h1 : t < i * m + D.length
  · rw [if_pos h1, if_pos (by omega)]
  · rw [if_neg h1]
    by_cases h2 : t < i * m + m
    · rw [if_pos h2]
      obtain ⟨j, rfl⟩ : ∃ j, t = i * m + j := ⟨t - i * m, by omega⟩
      rw [xo_at _ _ _ _ _ (by omega)]
      have hl := length_nwF D (s.getD i 0#8) i D.length
      rw [List.getD, List.getElem?_eq_none (by omega)]; rfl
    · rw [if_neg h2]
end Go.Proofs.Ytpghdiklleedaaa
