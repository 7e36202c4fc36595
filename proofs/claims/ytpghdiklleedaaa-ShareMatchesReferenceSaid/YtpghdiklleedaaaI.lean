/- The contract of interpolate. -/
import Derived.Test.YtpghdiklleedaaaH
set_option linter.all false
namespace Go.Proofs.Ytpghdiklleedaaa
open Go.RowKit Go.Fen Gf
set_option linter.unusedVariables false
set_option maxHeartbeats 400000

/-- the weight of share k, after j factors -/
def wF (D : Dat) (x : BitVec 8) (k : Nat) : Nat → BitVec 8
  | 0 => 1#8
  | j + 1 => if j = k then wF D x k j else mul (wF D x k j) (mul (x ^^^ dX D j) (inv (dX D k ^^^ dX D j)))
/-- byte i of the sum of the first k shares -/
def vF (D : Dat) (x : BitVec 8) (i : Nat) : Nat → BitVec 8
  | 0 => 0#8
  | k + 1 => vF D x i k ^^^ mul (wF D x k D.length) ((dB D k).getD i 0#8)
def interpL (D : Dat) (x : BitVec 8) : List (BitVec 8) := (List.range (dB D 0).length).map fun i => vF D x i D.length
/-- the first i of n bytes come from f, the others from h -/
def fill2 (f h : Nat → BitVec 8) (n i : Nat) : List (BitVec 8) := (List.range n).map fun t => if t < i then f t else h t
theorem length_fill2 (f h : Nat → BitVec 8) (n i : Nat) : (fill2 f h n i).length = n := by simp [fill2]
theorem fill2_succ (f h : Nat → BitVec 8) (n k : Nat) : fill2 f h n (k + 1) = (fill2 f h n k).set k (f k) := by
  apply List.ext_getElem
  · simp [fill2]
  · intro i h1 h2
    simp only [fill2, List.getElem_map, List.getElem_range, List.getElem_set]
    by_cases e : k = i
    · subst e; simp
    · rw [if_neg e]
      by_cases h : i < k
      · rw [if_pos h, if_pos (by omega)]
      · rw [if_neg h, if_neg (by omega)]
theorem fill2_get (f h : Nat → BitVec 8) (n k : Nat) (hk : k < n) : (fill2 f h n k).getD k 0#8 = h k := by
  simp [fill2, List.getD, hk]
theorem fill2_zero (f h : Nat → BitVec 8) (n : Nat) : fill2 f h n 0 = (List.range n).map h := by simp [fill2]
theorem fill2_all (f h : Nat → BitVec 8) (n : Nat) : fill2 f h n n = (List.range n).map f := by
  apply List.ext_getElem
  · simp [fill2]
  · intro i h1 h2
    have hi : i < n := by simpa [fill2] using h1
    simp [fill2, hi]
def outL (D : Dat) (x : BitVec 8) (n k : Nat) : List (BitVec 8) := (List.range n).map fun i => vF D x i k
theorem outL_zero (D : Dat) (x : BitVec 8) (n : Nat) : outL D x n 0 = List.replicate n 0#8 := by
  apply List.ext_getElem
  · simp [outL]
  · intro i h1 h2; simp [outL, vF]

set_option maxHeartbeats 2000000 in
theorem interp_any (g ga oa : Nat) (L : List Shr) (c : Nat) (x : BitVec 8) (n : Nat) (hL : 0 < L.length) (hL2 : L.length ≤ 1000000) (hn : n ≤ 1000000) (hlen : ∀ i, i < L.length → (L.getD i zs).b.length = n) (w : World) (hT : TB w g)
    (hc : ∀ i, i < L.length → w.cell? ⟨ga, oa + i * 2, none⟩ = some (.int .u8 (L.getD i zs).x.toNat) ∧ w.cell? ⟨ga, oa + i * 2 + 1, none⟩ = some (L.getD i zs).v) (hsv : ∀ i, i < L.length → SV w (L.getD i zs).v (L.getD i zs).b) :
    Calls Try.prog 34 #[.slice (some ⟨ga, oa, none⟩) L.length c, .int .u8 x.toNat, .func (.func 35) #[.pointer (some ⟨g, 0, none⟩)] #[], .func (.func 29) #[.pointer (some ⟨g, 0, none⟩)] #[]] w fun e w' =>
      ∃ g', e = .returned (.slice (some ⟨g', 0, none⟩) n n) ∧ w.heap.size ≤ g' ∧ Row w' g' 5 (bcells (interpL (dat L) x)) ∧ Below w.heap.size w w' := by
  have hres : Hid (interpL (dat L) x = outL (dat L) x n L.length) := Lib.hid (by rw [interpL, dB_dat, hlen 0 hL, length_dat]; rfl)
  rw [hres.out]
  obtain ⟨m, hm⟩ : ∃ m, m = L.length := ⟨_, rfl⟩
  rw [← hm] at hL hL2 ⊢
  have M := Lib.hid hm
  obtain ⟨gO, eO⟩ : ∃ g, g = w.heap.size := ⟨_, rfl⟩
  have hgT : g < gO := by rw [eO]; exact Row.lt hT
  have hgw : ga < gO := by rw [eO]; exact block_lt_of_cell (a := ⟨ga, oa + 0 * 2, none⟩) (hc 0 (by rw [← hm]; exact hL)).1
  obtain ⟨a0, c0, ev0, _, _⟩ := hsv 0 (by rw [← hm]; exact hL)
  have c1 := (hc 0 (by rw [← hm]; exact hL)).2
  rw [ev0, hlen 0 (by rw [← hm]; exact hL)] at c1
  simp only [Nat.zero_mul, Nat.add_zero] at c1
  have hmk := run_make_row' (P := Try.prog) 27 5 (.int .u8 0) 1 Try.underlying27 Try.info5 rfl .i64 .i64 n (by omega) (by omega)
  rw [madeB] at hmk
  have r0 : Row (w.alloc (.cells (bcells (List.replicate n 0#8)) 5)) gO 5 (bcells (outL (dat L) x n 0)) := by rw [outL_zero]; exact Row.new' _ _ eO
  have b0 : Below gO w (w.alloc (.cells (bcells (List.replicate n 0#8)) 5)) := by rw [eO]; exact (Below.refl _ _).alloc (Nat.le_refl _) _
  have HT := Lib.hid hT
  have HC := Lib.hid hc
  have HSV := Lib.hid hsv
  have HLEN := Lib.hid hlen
  have EO := Lib.hid eO
  have wle : w.heap.size ≤ gO := Nat.le_of_eq eO.symm
  have mi : (0 : Int) < (m : Int) := by omega
  clear hT hc hsv hlen eO ev0 hm
  -- what is read of share k
  have hr : Hid (∀ k, k < m → ∃ av cv, (L.getD k zs).v = .slice av n cv ∧ n ≤ cv ∧ (∀ wr, Below gO w wr → wr.rangeAt ga (oa + k * 2) [.int .u8 (L.getD k zs).x.toNat, .slice av n cv]) ∧ (∀ i, i < n → ∃ gb ob, av = some ⟨gb, ob, none⟩ ∧ ∀ wr, Below gO w wr → wr.cell? ⟨gb, ob + i, none⟩ = some (.int .u8 ((L.getD k zs).b.getD i 0#8).toNat))) := Lib.hid fun k hk => by
    have hk' : k < L.length := by rw [← M.out]; exact hk
    obtain ⟨av, cv, ev, hcv, hbs⟩ := HSV.out k hk'
    rw [HLEN.out k hk'] at ev hcv
    refine ⟨av, cv, ev, hcv, fun wr hb j v hv => ?_, fun i hi => ?_⟩
    · have hcc := HC.out k hk'
      rw [ev] at hcc
      match j, hv with
      | 0, hv => simp at hv; subst hv; exact (hb.cell (p := ⟨ga, oa + k * 2, none⟩) hgw).trans hcc.1
      | 1, hv => simp at hv; subst hv; exact (hb.cell (p := ⟨ga, oa + k * 2 + 1, none⟩) hgw).trans hcc.2
      | (j + 2), hv => simp at hv
    · rcases hbs with h | ⟨gb, ob, ea, hcb⟩
      · have := HLEN.out k hk'; rw [h] at this; simp at this; omega
      · have hcc := hcb i (by rw [HLEN.out k hk']; exact hi)
        refine ⟨gb, ob, ea, fun wr hb => ?_⟩
        exact (hb.cell (p := ⟨gb, ob + i, none⟩) (by show gb < gO; rw [EO.out]; exact block_lt_of_cell (a := ⟨gb, ob + i, none⟩) hcc)).trans hcc
  go_enter Try.func34, Try.ntmps34
  go_wp2_with fail
  rw [← EO.out]
  clear hmk c1
  generalize w.alloc (.cells (bcells (List.replicate n 0#8)) 5) = W1 at *
  go_loopw [25] (fun i wr => ∃ k : Nat, k ≤ m ∧ i = .int .i64 k ∧ Row wr gO 5 (bcells (outL (dat L) x n k)) ∧ Below gO w wr) (fun i _ => m - (intOf i).toNat)
  case atStart => exact ⟨0, by omega, rfl, r0, b0⟩
  case round =>
    clear r0 b0 W1
    obtain ⟨k, hk, rfl, r, hb⟩ := hrel
    by_cases hkm : k < m
    · have ki : (k : Int) < (m : Int) := by omega
      obtain ⟨av, cv, ev, hcv, hra, hby⟩ := hr.out k hkm
      have hO1 : Hid (outL (dat L) x n k = fill2 (fun t => vF (dat L) x t (k + 1)) (fun t => vF (dat L) x t k) n 0) := Lib.hid (fill2_zero _ _ _).symm
      have hO2 : Hid (outL (dat L) x n (k + 1) = fill2 (fun t => vF (dat L) x t (k + 1)) (fun t => vF (dat L) x t k) n n) := Lib.hid (fill2_all _ _ _).symm
      have HRA := Lib.hid hra
      have HBY := Lib.hid hby
      have R := Lib.hid r
      have Hb := Lib.hid hb
      have hdk : Hid (dX (dat L) k = (L.getD k zs).x) := Lib.hid (dX_dat L k)
      obtain ⟨xk, hxk⟩ : ∃ y, y = (L.getD k zs).x := ⟨_, rfl⟩
      rw [← hxk] at HRA hdk
      obtain ⟨g11, e11⟩ : ∃ g, g = wr.heap.size := ⟨_, rfl⟩
      have E11 := Lib.hid e11
      have h11O : gO < g11 := by rw [e11]; exact r.lt
      clear r hb hra hby ev hcv hxk e11
      go_wp2_with (first | ((with_reducible show wpList _ _ _ (Oper.mk _ (Op.load _ _) _ _ _ _ :: _) _ _); refine wpList_load_mid rfl 33 (.tmp 28) rfl ga (oa + k * 2) rfl [.int .u8 xk.toNat, .slice av n cv] _ (HRA.out _ Hb.out) Try.underlying33 rfl Try.n33 ?_) | ((with_reducible show wpList _ _ _ (Oper.mk _ (Op.alloc _) _ _ _ _ :: _) _ _); refine wpList_alloc_row rfl 33 rfl _ Try.z33 g11 E11.out ?_) | ((with_reducible show wpList _ _ _ (Oper.mk _ (Op.store _ _ _) _ _ _ _ :: _) _ _); (refine wpList_put_arr rfl 33 (.tmp 11) (.tmp 29) rfl rfl g11 33 _ #[.int .u8 xk.toNat, .slice av n cv] rfl rfl (Row.new' _ _ E11.out) Try.n33 rfl (one_share _ _ _ _) ?_; rw [setRow_new _ _ _ _ _ E11.out])))
      obtain ⟨W2, hW2⟩ : ∃ W, W = wr.alloc (.cells #[.int .u8 xk.toNat, .slice av n cv] 33) := ⟨_, rfl⟩
      have r2 : Row W2 gO 5 (bcells (outL (dat L) x n k)) := by rw [hW2]; exact R.out.alloc _
      have s2 : Row W2 g11 33 #[.int .u8 xk.toNat, .slice av n cv] := by rw [hW2]; exact Row.new' _ _ E11.out
      have b2 : Below gO w W2 := by rw [hW2]; exact Hb.out.alloc (by have := R.out.lt; omega) _
      rw [← hW2]
      clear hW2 R Hb E11 hO1
      clear wr
      go_loopw [12, 32] (fun vw i wr => ∃ j : Nat, j ≤ m ∧ i = .int .i64 j ∧ vw = .int .u8 (wF (dat L) x k j).toNat ∧ Row wr gO 5 (bcells (outL (dat L) x n k)) ∧ Row wr g11 33 #[.int .u8 xk.toNat, .slice av n cv] ∧ Below gO w wr) (fun _ i _ => m - (intOf i).toNat)
      case atStart => exact ⟨0, by omega, rfl, rfl, r2, s2, b2⟩
      case round =>
        clear r2 s2 b2 W2
        obtain ⟨j, hj, rfl, rfl, r, s, hb⟩ := hrel
        by_cases hjm : j < m
        · have ji : (j : Int) < (m : Int) := by omega
          obtain ⟨aj, cj, ev, hcv, hra, hby⟩ := hr.out j hjm
          have HRA' := Lib.hid hra
          have R := Lib.hid r
          have S := Lib.hid s
          have Hb := Lib.hid hb
          have hdj : Hid (dX (dat L) j = (L.getD j zs).x) := Lib.hid (dX_dat L j)
          obtain ⟨xj, hxj⟩ : ∃ y, y = (L.getD j zs).x := ⟨_, rfl⟩
          rw [← hxj] at HRA' hdj
          obtain ⟨g14, e14⟩ : ∃ g, g = wr.heap.size := ⟨_, rfl⟩
          have E14 := Lib.hid e14
          have h14 : g11 < g14 := by rw [e14]; exact s.lt
          have hwk : Hid (wF (dat L) x k (j + 1) = if j = k then wF (dat L) x k j else mul (wF (dat L) x k j) (mul (x ^^^ xj) (inv (xk ^^^ xj)))) := Lib.hid (by rw [wF, hdj.out, hdk.out])
          obtain ⟨W3, hW3⟩ : ∃ W, W = wr.alloc (.cells #[.int .u8 xj.toNat, .slice aj n cj] 33) := ⟨_, rfl⟩
          have r3 : Hid (Row W3 gO 5 (bcells (outL (dat L) x n k))) := Lib.hid (by rw [hW3]; exact r.alloc _)
          have s3 : Row W3 g11 33 #[.int .u8 xk.toNat, .slice av n cv] := by rw [hW3]; exact s.alloc _
          have t3 : Row W3 g14 33 #[.int .u8 xj.toNat, .slice aj n cj] := by rw [hW3]; exact Row.new' _ _ e14
          have b3 : Hid (Below gO w W3) := Lib.hid (by rw [hW3]; exact hb.alloc (by have := r.lt; omega) _)
          have hW3' := Lib.hid hW3
          have T3 : Hid (TB W3 g) := Lib.hid (HT.out.below b3.out hgT)
          have cx := s3.cell 0
          have cy := t3.cell 0
          simp only [List.getElem?_toArray, List.getElem?_cons_zero] at cx cy
          have S3 := Lib.hid s3
          clear r s hb hra hby ev hcv hxj e14 hW3 s3 t3
          generalize wF (dat L) x k j = wk at *
          by_cases hjk : j = k
          · have hw := hwk.out
            rw [if_pos hjk] at hw
            have Hw := Lib.hid hw
            clear hw hwk cx cy
            subst hjk
            go_wp2_with (first | ((with_reducible show wpList _ _ _ (Oper.mk _ (Op.load _ _) _ _ _ _ :: _) _ _); refine wpList_load_mid rfl 33 (.tmp 35) rfl ga (oa + j * 2) rfl [.int .u8 xj.toNat, .slice aj n cj] _ (HRA'.out _ Hb.out) Try.underlying33 rfl Try.n33 ?_) | ((with_reducible show wpList _ _ _ (Oper.mk _ (Op.alloc _) _ _ _ _ :: _) _ _); refine wpList_alloc_row rfl 33 rfl _ Try.z33 g14 E14.out ?_) | ((with_reducible show wpList _ _ _ (Oper.mk _ (Op.store _ _ _) _ _ _ _ :: _) _ _); (refine wpList_put_arr rfl 33 (.tmp 14) (.tmp 36) rfl rfl g14 33 _ #[.int .u8 xj.toNat, .slice aj n cj] rfl rfl (Row.new' _ _ E14.out) Try.n33 rfl (one_share _ _ _ _) ?_; rw [setRow_new _ _ _ _ _ E14.out, ← hW3'.out])))
            go_roundw
            case rel => exact ⟨j + 1, by omega, by go_num, by rw [Hw.out], r3.out, S3.out, b3.out⟩
            case measure => simp [intOf] <;> omega
          · have hw := hwk.out
            rw [if_neg hjk] at hw
            have h1 := u8_xor_bv x xj
            have h2 := u8_xor_bv xk xj
            have hd := fun W (h : TB W g) => tdiv_any g (x ^^^ xj) (xk ^^^ xj) W h
            have hmu := fun W (h : TB W g) => tmul_any g wk (mul (x ^^^ xj) (inv (xk ^^^ xj))) W h
            rw [← hw] at hmu
            generalize mul (x ^^^ xj) (inv (xk ^^^ xj)) = q1 at *
            generalize x ^^^ xj = y1 at *
            generalize xk ^^^ xj = y2 at *
            have Hd := Lib.hid hd
            have Hmu := Lib.hid hmu
            have hjki : ((j : Int) == (k : Int)) = false := by simp; omega
            have hjk2 : ¬ ((j : Int) = (k : Int)) := by omega
            clear hd hmu hw hwk
            go_wp2_with (first | ((with_reducible show wpList _ _ _ (Oper.mk _ (Op.load _ _) _ _ _ _ :: _) _ _); refine wpList_load_mid rfl 33 (.tmp 35) rfl ga (oa + j * 2) rfl [.int .u8 xj.toNat, .slice aj n cj] _ (HRA'.out _ Hb.out) Try.underlying33 rfl Try.n33 ?_) | ((with_reducible show wpList _ _ _ (Oper.mk _ (Op.alloc _) _ _ _ _ :: _) _ _); refine wpList_alloc_row rfl 33 rfl _ Try.z33 g14 E14.out ?_) | ((with_reducible show wpList _ _ _ (Oper.mk _ (Op.store _ _ _) _ _ _ _ :: _) _ _); (refine wpList_put_arr rfl 33 (.tmp 14) (.tmp 36) rfl rfl g14 33 _ #[.int .u8 xj.toNat, .slice aj n cj] rfl rfl (Row.new' _ _ E14.out) Try.n33 rfl (one_share _ _ _ _) ?_; rw [setRow_new _ _ _ _ _ E14.out, ← hW3'.out])))
            refine (Hd.out W3 T3.out).mono ?_
            rintro e w' ⟨rfl, q, rfl⟩
            go_wp2_with fail
            refine (Hmu.out _ (T3.out.drewN q)).mono ?_
            rintro e w' ⟨rfl, q', rfl⟩
            go_wp2_with fail
            go_roundw
            case rel => exact ⟨j + 1, by omega, by go_num, by rfl, r3.out.drewN (q + q'), S3.out.drewN (q + q'), below_drewN b3.out (q + q')⟩
            case measure => simp [intOf] <;> omega
        · have hj' : wF (dat L) x k j = wF (dat L) x k m := by rw [show j = m by omega]
          rw [hj']
          obtain ⟨wk, hwk⟩ : ∃ y, y = wF (dat L) x k m := ⟨_, rfl⟩
          rw [← hwk]
          have hv : Hid (∀ t, vF (dat L) x t (k + 1) = vF (dat L) x t k ^^^ mul wk ((L.getD k zs).b.getD t 0#8)) := Lib.hid fun t => by rw [vF, length_dat, ← M.out, ← hwk, dB_dat]
          have hjm2 : ¬ ((j : Int) < (m : Int)) := by omega
          have cv' := s.cell 1
          simp only [List.getElem?_toArray, List.getElem?_cons_zero, List.getElem?_cons_succ] at cv'
          have r4 : Row wr gO 5 (bcells (fill2 (fun t => vF (dat L) x t (k + 1)) (fun t => vF (dat L) x t k) n 0)) := by rw [fill2_zero]; exact r
          have b4 := hb
          clear hj' hwk r s hb hjm hj
          go_wp2_with fail
          go_loopw [58] (fun i wr => ∃ t : Nat, t ≤ n ∧ i = .int .i64 t ∧ Row wr gO 5 (bcells (fill2 (fun t => vF (dat L) x t (k + 1)) (fun t => vF (dat L) x t k) n t)) ∧ Below gO w wr) (fun i _ => n - (intOf i).toNat)
          case atStart => exact ⟨0, by omega, rfl, r4, b4⟩
          case round =>
            clear r4 b4 cv'
            obtain ⟨t, ht, rfl, r, hb⟩ := hrel
            by_cases htn : t < n
            · obtain ⟨gb, ob, ea, hcb⟩ := HBY.out t htn
              subst ea
              have cb := hcb wr hb
              have ti : (t : Int) < (n : Int) := by omega
              have hset := Lib.hid (fill2_succ (fun t => vF (dat L) x t (k + 1)) (fun t => vF (dat L) x t k) n t)
              have lf := length_fill2 (fun t => vF (dat L) x t (k + 1)) (fun t => vF (dat L) x t k) n t
              have co := (r.cell t).trans (get_bcells _ t (by rw [lf]; exact htn))
              rw [fill2_get _ _ _ _ htn] at co
              have fo := r.frozen t
              have hvt := hv.out t
              have hx := u8_xor_bv (vF (dat L) x t k) (mul wk ((L.getD k zs).b.getD t 0#8))
              rw [← hvt] at hx
              have hmu := fun W (h : TB W g) => tmul_any g wk ((L.getD k zs).b.getD t 0#8) W h
              have HT' : Hid (TB wr g) := Lib.hid (HT.out.below hb hgT)
              obtain ⟨z, hz⟩ : ∃ z, z = vF (dat L) x t (k + 1) := ⟨_, rfl⟩
              rw [← hz] at hx
              generalize mul wk ((L.getD k zs).b.getD t 0#8) = q at *
              generalize (L.getD k zs).b.getD t 0#8 = bt at *
              generalize vF (dat L) x t k = old at *
              have Hmu := Lib.hid hmu
              have R := Lib.hid r
              have Hb := Lib.hid hb
              have HZ := Lib.hid hz
              clear hmu r hb hz lf hvt hcb
              go_wp2_with fail
              refine wp_region_quiet_last (by kernel_rfl) (by kernel_rfl) _ rfl ?_
              simp only [List.dropLast_cons_cons, List.dropLast_singleton]
              repeat (quiet_step (first | (go_at_call 35; exact Calls.quiet_of (Hmu.out _ (HT'.out.drewN _)))))
              refine wpQuiet_nil ?_
              intro _ hw'
              obtain ⟨nq, hw''⟩ := hw'
              subst hw''
              go_wp2_with fail
              go_roundw
              case rel =>
                refine ⟨t + 1, by omega, by go_num, ?_, (below_drewN Hb.out nq).setCell (Nat.le_refl _) _⟩
                rw [hset.out, ← HZ.out, ← set_bcells]
                exact (R.out.drewN nq).set t _
              case measure => simp [intOf] <;> omega
            · have r5 : Row wr gO 5 (bcells (outL (dat L) x n (k + 1))) := by
                rw [hO2.out]
                rw [show t = n by omega] at r
                exact r
              have htn2 : ¬ ((t : Int) < (n : Int)) := by omega
              have b5 := hb
              clear r hb ht htn
              go_wp2_with fail
              go_roundw
              case rel => exact ⟨k + 1, by omega, by go_num, r5, b5⟩
              case measure => simp [intOf] <;> omega
    · have hk' : k = m := by omega
      rw [hk'] at r
      have R := Lib.hid r
      have Hb := Lib.hid hb
      have hkm2 : ¬ ((k : Int) < (m : Int)) := by omega
      clear r hb hk' hkm hk
      go_wp2_with fail
      go_ret
      exact ⟨gO, rfl, wle, by first | exact R.out | (rw [← M.out]; exact R.out), Hb.out.mono wle⟩
end Go.Proofs.Ytpghdiklleedaaa
