/- Plain: what the functions of package share compute, as polynomials; the laws on it. -/
import Derived.Test.YtpghdiklleedaaaK
set_option linter.all false
namespace Go.Proofs.Ytpghdiklleedaaa
open Go.RowKit Go.Fen Gf
set_option linter.unusedVariables false
/-! ### noise and masks are polynomials -/
def coefs (r : List (BitVec 8)) (frm n : Nat) : List (BitVec 8) := (List.range n).map fun j => r.getD (frm + j) 0#8
theorem length_coefs (r : List (BitVec 8)) (frm n : Nat) : (coefs r frm n).length = n := by simp [coefs]
theorem coefs_succ (r : List (BitVec 8)) (frm n : Nat) : coefs r frm (n + 1) = r.getD frm 0#8 :: coefs r (frm + 1) n := by
  simp only [coefs, List.range_succ_eq_map, List.map_cons, List.map_map, Nat.add_zero]
  congr 1
  apply List.map_congr_left
  intro j _
  simp only [Function.comp_apply]
  rw [show frm + (j + 1) = frm + 1 + j by omega]
theorem nz_ev (r : List (BitVec 8)) (frm n : Nat) (x : BitVec 8) : ∀ t, t ≤ n → nz r frm n x t = mul (ev (coefs r (frm + (n - t)) t) x) x := by
  intro t
  induction t with
  | zero => intro _; simp [nz, coefs, ev, zero_mul]
  | succ t ih =>
    intro h
    rw [nz, ih (by omega), coefs_succ, ev, show frm + (n - (t + 1)) + 1 = frm + (n - t) by omega, show n - (t + 1) = n - 1 - t by omega]
    congr 1
    rw [BitVec.xor_comm, mul_comm x]
theorem noise_ev (c : BitVec 8) (r : List (BitVec 8)) (need i : Nat) (x : BitVec 8) : c ^^^ noiseV r need i x = ev (c :: coefs r (i * (need - 1)) (need - 1)) x := by
  rw [noiseV, nz_ev _ _ _ _ _ (Nat.le_refl _), Nat.sub_self, Nat.add_zero, ev, mul_comm x]
/-- the polynomial of byte i of a secret -/
def polyOf (s r : List (BitVec 8)) (need i : Nat) : List (BitVec 8) := s.getD i 0#8 :: coefs r (i * (need - 1)) (need - 1)
theorem length_polyOf (s r : List (BitVec 8)) (need i : Nat) (h : 1 ≤ need) : (polyOf s r need i).length = need := by
  simp only [polyOf, List.length_cons, length_coefs]; omega
theorem mask_ev (s r : List (BitVec 8)) (need : Nat) (x : BitVec 8) (i : Nat) (hi : i < s.length) : (maskL s r need x).getD i 0#8 = ev (polyOf s r need i) x := by
  rw [polyOf, ← noise_ev]
  simp [maskL, List.getD, hi]
theorem polyOf_zero (s r : List (BitVec 8)) (need i : Nat) : ev (polyOf s r need i) 0#8 = s.getD i 0#8 := by
  rw [ev_zero]; rfl

/-! ### interpolation is Lagrange's -/
def ptsOf (D : Dat) (i : Nat) : List (BitVec 8 × BitVec 8) := D.map fun d => (d.1, d.2.getD i 0#8)
def xsOf (D : Dat) : List (BitVec 8) := D.map (·.1)
theorem ptsOf_fst (D : Dat) (i : Nat) : (ptsOf D i).map (·.1) = xsOf D := by simp [ptsOf, xsOf, Function.comp_def]
theorem length_xsOf (D : Dat) : (xsOf D).length = D.length := by simp [xsOf]
theorem xsOf_get (D : Dat) (k : Nat) (hk : k < D.length) : (xsOf D)[k]'(by rw [length_xsOf]; exact hk) = dX D k := by
  simp [xsOf, dX, List.getD, hk]
theorem wt_one (x a o : BitVec 8) (p : List (BitVec 8)) : wt x a (p ++ [o]) = mul (wt x a p) (mul (x ^^^ o) (inv (a ^^^ o))) := by
  rw [wt_append, wt, wt, mul_one]
theorem wF_low (D : Dat) (x : BitVec 8) (k : Nat) : ∀ j, j ≤ k → j ≤ D.length → wF D x k j = wt x (dX D k) ((xsOf D).take j) := by
  intro j
  induction j with
  | zero => intro _ _; simp [wF, wt]
  | succ j ih =>
    intro h1 h2
    rw [wF, if_neg (by omega), ih (by omega) (by omega), List.take_succ_eq_append_getElem (by rw [length_xsOf]; omega), wt_one, xsOf_get D j (by omega)]
theorem wF_high (D : Dat) (x : BitVec 8) (k : Nat) (hk : k < D.length) : ∀ j, k < j → j ≤ D.length → wF D x k j = wt x (dX D k) ((xsOf D).take k ++ ((xsOf D).take j).drop (k + 1)) := by
  intro j
  induction j with
  | zero => intro h; omega
  | succ j ih =>
    intro h1 h2
    by_cases e : j = k
    · subst e
      rw [wF, if_pos rfl, wF_low D x j j (Nat.le_refl _) (by omega), List.drop_eq_nil_of_le (by simp; omega), List.append_nil]
    · rw [wF, if_neg e, ih (by omega) (by omega), List.take_succ_eq_append_getElem (by rw [length_xsOf]; omega), List.drop_append_of_le_length (by simp [length_xsOf]; omega), ← List.append_assoc, wt_one, xsOf_get D j (by omega)]
theorem vF_lag (D : Dat) (x : BitVec 8) (i : Nat) : ∀ m k, k + m = D.length → vF D x i D.length = vF D x i k ^^^ lag x ((xsOf D).take k) ((ptsOf D i).drop k) := by
  intro m
  induction m with
  | zero =>
    intro k hk
    rw [List.drop_eq_nil_of_le (by simp [ptsOf]; omega), lag, show k = D.length by omega]; simp
  | succ m ih =>
    intro k hk
    have hkD : k < D.length := by omega
    rw [ih (k + 1) (by omega), vF, List.drop_eq_getElem_cons (by simp [ptsOf]; omega : k < (ptsOf D i).length)]
    have e1 : (ptsOf D i)[k]'(by simp [ptsOf]; omega) = (dX D k, (dB D k).getD i 0#8) := by simp [ptsOf, dX, dB, List.getD, hkD]
    rw [e1]
    simp only [lag]
    rw [wF_high D x k hkD D.length hkD (Nat.le_refl _), List.take_of_length_le (i := D.length) (by rw [length_xsOf]; exact Nat.le_refl _), List.take_succ_eq_append_getElem (by rw [length_xsOf]; omega), xsOf_get D k hkD]
    have e2 : ((ptsOf D i).drop (k + 1)).map (·.1) = (xsOf D).drop (k + 1) := by rw [List.map_drop, ptsOf_fst]
    rw [e2, BitVec.xor_assoc]
theorem vF_all (D : Dat) (x : BitVec 8) (i : Nat) : vF D x i D.length = lag x [] (ptsOf D i) := by
  have := vF_lag D x i D.length 0 (by omega)
  simpa [vF] using this

/-! ### sorting -/
theorem getD_set (l : List Int) (a c : Nat) (v : Int) (ha : a < l.length) : (l.set a v).getD c 0 = if a = c then v else l.getD c 0 := by
  simp only [List.getD, List.getElem?_set]
  split
  · rename_i e; subst e; simp
  · rfl
theorem atF_succ (D : Dat) (k c : Nat) : (atF D (k + 1)).getD c 0 = if (dX D k).toNat = c then (k : Int) + 1 else (atF D k).getD c 0 := by
  rw [atF, getD_set _ _ _ _ (by rw [length_atF]; exact (dX D k).isLt)]
theorem atF_pos (D : Dat) (k c : Nat) (h : 0 < (atF D k).getD c 0) : ∃ j, j < k ∧ (atF D k).getD c 0 = (j : Int) + 1 ∧ (dX D j).toNat = c := by
  induction k with
  | zero => rw [atF, getD_z256] at h; omega
  | succ k ih =>
    rw [atF_succ] at h ⊢
    split at h
    · rename_i e; exact ⟨k, by omega, by rw [if_pos e], e⟩
    · rename_i e
      obtain ⟨j, hj, h1, h2⟩ := ih h
      exact ⟨j, by omega, by rw [if_neg e]; exact h1, h2⟩
theorem atF_met (D : Dat) (k j : Nat) (hw : ∀ i, i < k → okAt D i) (hj : j < k) : (atF D k).getD (dX D j).toNat 0 = (j : Int) + 1 := by
  induction k with
  | zero => omega
  | succ k ih =>
    rw [atF_succ]
    by_cases e : j = k
    · subst e; rw [if_pos rfl]
    · have h1 := ih (fun i hi => hw i (by omega)) (by omega)
      rw [if_neg, h1]
      intro e2
      have := (hw k (by omega)).2.1
      rw [e2, h1] at this
      omega
theorem well_inj (D : Dat) (hw : well D = true) (i j : Nat) (hi : i < D.length) (hj : j < D.length) (h : dX D i = dX D j) : i = j := by
  have h1 := atF_met D D.length i ((well_iff D).1 hw) hi
  have h2 := atF_met D D.length j ((well_iff D).1 hw) hj
  rw [h, h2] at h1
  omega
theorem well_nodup (D : Dat) (hw : well D = true) : (xsOf D).Nodup := by
  rw [List.Nodup, List.pairwise_iff_getElem]
  intro i j hi hj hij e
  rw [length_xsOf] at hi hj
  rw [xsOf_get D i hi, xsOf_get D j hj] at e
  have := well_inj D hw i j hi hj e
  omega
/-- the way back: different points other than zero, and one length -/
theorem well_of (D : Dat) (hn : (xsOf D).Nodup) (hz : ∀ k, k < D.length → dX D k ≠ 0#8) (hl : ∀ k, k < D.length → (dB D k).length = (dB D 0).length) : well D = true := by
  rw [well_iff]
  intro k hk
  refine ⟨hz k hk, ?_, hl k hk⟩
  have hb : 0 ≤ (atF D k).getD (dX D k).toNat 0 := by
    generalize (dX D k).toNat = c
    clear hk
    induction k with
    | zero => rw [atF, getD_z256]; omega
    | succ k ih => rw [atF_succ]; split <;> omega
  by_cases h : 0 < (atF D k).getD (dX D k).toNat 0
  · obtain ⟨j, hj, _, e⟩ := atF_pos D k _ h
    rw [List.Nodup, List.pairwise_iff_getElem] at hn
    exact absurd (by rw [xsOf_get D j (by omega), xsOf_get D k hk]; exact BitVec.eq_of_toNat_eq e) (hn j k (by rw [length_xsOf]; omega) (by rw [length_xsOf]; omega) hj)
  · omega
theorem mem_sortD (D : Dat) (hw : well D = true) (d : BitVec 8 × List (BitVec 8)) : d ∈ sortD D ↔ d ∈ D := by
  simp only [sortD, List.mem_filterMap, List.mem_range]
  constructor
  · rintro ⟨c, hc, h⟩
    split at h
    · rename_i hp
      obtain ⟨j, hj, e, _⟩ := atF_pos D _ c hp
      rw [e, show ((j : Int) + 1 - 1).toNat = j by omega] at h
      have : D.getD j (0#8, []) = D[j] := by simp [List.getD, hj]
      rw [this] at h
      rw [← Option.some.inj h]
      exact List.getElem_mem hj
    · simp at h
  · intro h
    obtain ⟨j, hj, rfl⟩ := List.getElem_of_mem h
    refine ⟨(dX D j).toNat, (dX D j).isLt, ?_⟩
    rw [atF_met D D.length j ((well_iff D).1 hw) hj, if_pos (by omega), show ((j : Int) + 1 - 1).toNat = j by omega]
    simp [List.getD, hj]
theorem sortD_xs (D : Dat) : xsOf (sortD D) = (List.range 256).filterMap fun c => if 0 < (atF D D.length).getD c 0 then some (BitVec.ofNat 8 c) else none := by
  rw [xsOf, sortD, List.map_filterMap]
  have : ∀ c, (Option.map (·.1) (if 0 < (atF D D.length).getD c 0 then some (D.getD ((atF D D.length).getD c 0 - 1).toNat (0#8, [])) else none)) = if 0 < (atF D D.length).getD c 0 then some (BitVec.ofNat 8 c) else none := by
    intro c
    by_cases hp : 0 < (atF D D.length).getD c 0
    · rw [if_pos hp, if_pos hp]
      obtain ⟨j, hj, e, e2⟩ := atF_pos D _ c hp
      rw [e, show ((j : Int) + 1 - 1).toNat = j by omega]
      simp only [Option.map_some]
      rw [← e2, show (D.getD j (0#8, [])).1 = dX D j from rfl]
      simp
    · rw [if_neg hp, if_neg hp]; rfl
  congr 1
  funext c
  exact this c
theorem nodup_filterMap_range {β : Type} (f : Nat → Option β) (n : Nat) (hf : ∀ i j b, i < n → j < n → f i = some b → f j = some b → i = j) : ((List.range n).filterMap f).Nodup := by
  induction n with
  | zero => simp
  | succ n ih =>
    rw [List.range_succ, List.filterMap_append, List.nodup_append]
    refine ⟨ih fun i j b hi hj => hf i j b (by omega) (by omega), ?_, ?_⟩
    · cases h : f n <;> simp [h]
    · intro a ha b hb e
      subst e
      simp only [List.mem_filterMap, List.mem_range] at ha
      obtain ⟨i, hi, h1⟩ := ha
      have h2 : f n = some a := by
        cases h : f n with
        | none => simp [h] at hb
        | some c => simp [h] at hb; rw [hb]
      have := hf i n a (by omega) (by omega) h1 h2
      omega
theorem sortD_nodup (D : Dat) : (xsOf (sortD D)).Nodup := by
  rw [sortD_xs]
  refine nodup_filterMap_range _ _ fun i j b hi hj h1 h2 => ?_
  split at h1
  · split at h2
    · have h3 := Option.some.inj h1
      rw [← Option.some.inj h2] at h3
      have := congrArg BitVec.toNat h3
      rw [BitVec.toNat_ofNat, BitVec.toNat_ofNat, Nat.mod_eq_of_lt (by omega), Nat.mod_eq_of_lt (by omega)] at this
      exact this
    · simp at h2
  · simp at h1
theorem nodup_of_xs (D : Dat) (h : (xsOf D).Nodup) : D.Nodup := by
  rw [List.Nodup, List.pairwise_iff_getElem] at h ⊢
  intro i j hi hj hij e
  refine h i j (by rw [length_xsOf]; exact hi) (by rw [length_xsOf]; exact hj) hij ?_
  rw [xsOf_get D i hi, xsOf_get D j hj]
  simp [dX, List.getD, hi, hj, e]
theorem sortD_perm (D : Dat) (hw : well D = true) : (sortD D).Perm D :=
  (List.perm_ext_iff_of_nodup (nodup_of_xs _ (sortD_nodup D)) (nodup_of_xs _ (well_nodup D hw))).2 (mem_sortD D hw)
theorem length_sortD (D : Dat) (hw : well D = true) : (sortD D).length = D.length := (sortD_perm D hw).length_eq

/-! ### reconstruction -/
theorem ext_bytes (a b : List (BitVec 8)) (hl : a.length = b.length) (h : ∀ i, i < a.length → a.getD i 0#8 = b.getD i 0#8) : a = b :=
  List.ext_getElem hl fun i ha hb => by have := h i ha; simpa [List.getD, ha, hb] using this
theorem interp_get (D : Dat) (x : BitVec 8) (i : Nat) (hi : i < (dB D 0).length) : (interpL D x).getD i 0#8 = lag x [] (ptsOf D i) := by
  rw [← vF_all]; simp [interpL, List.getD, hi]
theorem length_interp (D : Dat) (x : BitVec 8) : (interpL D x).length = (dB D 0).length := by simp [interpL]
/-- shares of polynomials yield their values -/
theorem interp_poly (M : Dat) (len : Nat) (g : Nat → BitVec 8 → BitVec 8) (hg : ∀ i, i < len → IsPoly M.length (g i)) (h0 : 0 < M.length) (hn : (xsOf M).Nodup) (hl : ∀ d ∈ M, d.2.length = len)
    (hv : ∀ d ∈ M, ∀ i, i < len → d.2.getD i 0#8 = g i d.1) (x : BitVec 8) : (interpL M x).length = len ∧ ∀ i, i < len → (interpL M x).getD i 0#8 = g i x := by
  have hb : (dB M 0).length = len := by
    have : dB M 0 = (M[0]).2 := by simp [dB, List.getD, h0]
    rw [this]
    exact hl _ (List.getElem_mem h0)
  refine ⟨by rw [length_interp, hb], fun i hi => ?_⟩
  rw [interp_get M x i (by rw [hb]; exact hi)]
  obtain ⟨f, hf, hfx⟩ := hg i hi
  rw [hfx]
  refine lag_eq f (ptsOf M i) (by rw [ptsOf_fst]; exact hn) (by simpa [ptsOf] using hf) (fun p hp => ?_) x
  obtain ⟨d, hd, rfl⟩ := List.mem_map.1 hp
  show d.2.getD i 0#8 = ev f d.1
  rw [hv d hd i hi, hfx]
theorem dB_mem (M : Dat) (k : Nat) (hk : k < M.length) : (dX M k, dB M k) ∈ M := by
  have : (dX M k, dB M k) = M[k] := by simp [dX, dB, List.getD, hk]
  rw [this]; exact List.getElem_mem hk
theorem comb_poly (D : Dat) (need : Nat) (s : List (BitVec 8)) (g : Nat → BitVec 8 → BitVec 8) (hw : well D = true) (h1 : 1 ≤ need) (hn : need ≤ D.length) (hg : ∀ i, i < s.length → IsPoly need (g i)) (hl : ∀ d ∈ D, d.2.length = s.length)
    (hv : ∀ d ∈ D, ∀ i, i < s.length → d.2.getD i 0#8 = g i d.1) (h0 : ∀ i, i < s.length → g i 0#8 = s.getD i 0#8) : combR D need = some s := by
  have hls := length_sortD D hw
  have hsub : ∀ d ∈ (sortD D).take need, d ∈ D := fun d hd => (mem_sortD D hw d).1 (List.mem_of_mem_take hd)
  have htl : ((sortD D).take need).length = need := by rw [List.length_take, hls]; omega
  have hnd : (xsOf ((sortD D).take need)).Nodup := by
    have : xsOf ((sortD D).take need) = (xsOf (sortD D)).take need := by rw [xsOf, List.map_take]; rfl
    rw [this]; exact (sortD_nodup D).sublist (List.take_sublist _ _)
  have key := interp_poly ((sortD D).take need) s.length g (fun i hi => by rw [htl]; exact hg i hi) (by omega) hnd (fun d hd => hl d (hsub d hd)) (fun d hd => hv d (hsub d hd))
  rw [combR, if_pos ⟨hw, by omega⟩, combV_some]
  · congr 1
    refine ext_bytes _ _ (key 0#8).1 fun i hi => ?_
    rw [(key 0#8).1] at hi
    rw [(key 0#8).2 i hi, h0 i hi]
  · intro i hi
    have hm := (mem_sortD D hw _).1 (dB_mem (sortD D) (need + i) (by omega))
    have hk := key (dX (sortD D) (need + i))
    refine ext_bytes _ _ (by rw [hk.1]; exact (hl _ hm).symm) fun j hj => ?_
    rw [hk.1] at hj
    rw [hk.2 j hj]
    exact (hv _ hm j hj).symm
/-- too few shares -/
theorem comb_few (D : Dat) (need : Nat) (h : D.length < need) : combR D need = none := by
  rw [combR, if_neg]
  rintro ⟨hw, hl⟩
  rw [length_sortD D hw] at hl
  omega
theorem comb_ill (D : Dat) (need : Nat) (h : well D = false) : combR D need = none := by
  rw [combR, if_neg]
  rintro ⟨hw, _⟩
  rw [h] at hw
  cases hw
/-- what was reconstructed lies on polynomials through all shares -/
theorem comb_on (D : Dat) (need : Nat) (h1 : 1 ≤ need) (s : List (BitVec 8)) (h : combR D need = some s) :
    well D = true ∧ ∀ i, i < (dB D 0).length → ∃ g : BitVec 8 → BitVec 8, IsPoly need g ∧ ∀ d ∈ D, d.2.getD i 0#8 = g d.1 := by
  rw [combR] at h
  split at h
  · rename_i hc
    obtain ⟨hw, hle⟩ := hc
    refine ⟨hw, fun i hi => ?_⟩
    have hlen : ∀ d ∈ D, d.2.length = (dB D 0).length := fun d hd => by
      obtain ⟨k, hk, rfl⟩ := List.getElem_of_mem hd
      have := ((well_iff D).1 hw k hk).2.2
      rwa [show dB D k = (D[k]).2 by simp [dB, List.getD, hk]] at this
    have htl : ((sortD D).take need).length = need := by rw [List.length_take]; omega
    have hnd : (xsOf ((sortD D).take need)).Nodup := by
      have : xsOf ((sortD D).take need) = (xsOf (sortD D)).take need := by rw [xsOf, List.map_take]; rfl
      rw [this]; exact (sortD_nodup D).sublist (List.take_sublist _ _)
    have hb0 : (dB ((sortD D).take need) 0).length = (dB D 0).length := by
      have hm := dB_mem ((sortD D).take need) 0 (by omega)
      exact hlen _ ((mem_sortD D hw _).1 (List.mem_of_mem_take hm))
    refine ⟨fun x => lag x [] (ptsOf ((sortD D).take need) i), ?_, fun d hd => ?_⟩
    · have := isPoly_lag [] (ptsOf ((sortD D).take need) i)
      simp only [ptsOf, List.length_map, List.length_nil, Nat.zero_add, htl] at this
      exact this
    · obtain ⟨k, hk, rfl⟩ := List.getElem_of_mem ((mem_sortD D hw d).2 hd)
      have ed : (sortD D)[k] = (dX (sortD D) k, dB (sortD D) k) := by simp [dX, dB, List.getD, hk]
      by_cases hkn : k < need
      · symm
        refine lag_at _ [] _ (by rw [ptsOf_fst]; simpa using hnd) _ ?_
        refine List.mem_map.2 ⟨(sortD D)[k], ?_, rfl⟩
        exact List.mem_iff_getElem.2 ⟨k, by rw [htl]; exact hkn, by simp⟩
      · have hcv : interpL ((sortD D).take need) (dX (sortD D) (need + (k - need))) = dB (sortD D) (need + (k - need)) := by
          by_cases hh : interpL ((sortD D).take need) (dX (sortD D) (need + (k - need))) = dB (sortD D) (need + (k - need))
          · exact hh
          · rw [combV_none (sortD D) need (k - need) (by omega) hh] at h; cases h
        rw [show need + (k - need) = k by omega] at hcv
        rw [ed]
        show (dB (sortD D) k).getD i 0#8 = _
        rw [← hcv, interp_get _ _ _ (by rw [hb0]; exact hi)]
  · cases h
/-- one byte of one share was changed -/
theorem comb_changed (D : Dat) (need : Nat) (h1 : 1 ≤ need) (hn : need < D.length) (k i : Nat) (hk : k < D.length) (hi : i < (dB D 0).length) (g : BitVec 8 → BitVec 8) (hg : IsPoly need g)
    (ho : ∀ j, j < D.length → j ≠ k → (dB D j).getD i 0#8 = g (dX D j)) (hne : (dB D k).getD i 0#8 ≠ g (dX D k)) : combR D need = none := by
  cases h : combR D need with
  | none => rfl
  | some s =>
    obtain ⟨hw, hon⟩ := comb_on D need h1 s h
    obtain ⟨p, hp, hpd⟩ := hon i hi
    exfalso
    have hpk : ∀ j, j < D.length → (dB D j).getD i 0#8 = p (dX D j) := fun j hj => hpd _ (dB_mem D j hj)
    have hxs := well_nodup D hw
    have e := IsPoly.eq hp hg ((xsOf D).eraseIdx k) (by rw [List.length_eraseIdx, length_xsOf, if_pos hk]; omega) (hxs.sublist (List.eraseIdx_sublist _ _)) (fun a ha => by
      obtain ⟨j, hj, hjk, rfl⟩ : ∃ j, j < D.length ∧ j ≠ k ∧ dX D j = a := by
        obtain ⟨j, hj, hjk, e⟩ := List.mem_eraseIdx_iff_getElem.1 ha
        rw [length_xsOf] at hj
        exact ⟨j, hj, hjk, by rw [← e, xsOf_get D j hj]⟩
      rw [← hpk j hj, ho j hj hjk]) (dX D k)
    exact hne (by rw [hpk k hk, e])
/-! ### lists of shares by numbers -/
theorem getD_map_nat {α : Type} (f : Nat → α) (idx : List Nat) (k : Nat) (d : α) (hk : k < idx.length) : (idx.map f).getD k d = f (idx[k]) := by
  simp [List.getD, hk]
theorem ofNat_inj {i j : Nat} (hi : i < 255) (hj : j < 255) (h : BitVec.ofNat 8 (i + 1) = BitVec.ofNat 8 (j + 1)) : i = j := by
  have := congrArg BitVec.toNat h
  rw [BitVec.toNat_ofNat, BitVec.toNat_ofNat, Nat.mod_eq_of_lt (by omega), Nat.mod_eq_of_lt (by omega)] at this
  omega
theorem ofNat_ne {i : Nat} (hi : i < 255) : BitVec.ofNat 8 (i + 1) ≠ 0#8 := by
  intro h
  have := congrArg BitVec.toNat h
  rw [BitVec.toNat_ofNat, Nat.mod_eq_of_lt (by omega)] at this
  simp at this
/-- the shares of these numbers -/
def byIdx (f : Nat → List (BitVec 8)) (idx : List Nat) : Dat := idx.map fun i => (BitVec.ofNat 8 (i + 1), f i)
theorem length_byIdx (f : Nat → List (BitVec 8)) (idx : List Nat) : (byIdx f idx).length = idx.length := by simp [byIdx]
theorem dX_byIdx (f : Nat → List (BitVec 8)) (idx : List Nat) (k : Nat) (hk : k < idx.length) : dX (byIdx f idx) k = BitVec.ofNat 8 (idx[k] + 1) := by
  rw [dX, byIdx, getD_map_nat _ _ _ _ hk]
theorem dB_byIdx (f : Nat → List (BitVec 8)) (idx : List Nat) (k : Nat) (hk : k < idx.length) : dB (byIdx f idx) k = f (idx[k]) := by
  rw [dB, byIdx, getD_map_nat _ _ _ _ hk]
theorem xs_byIdx_nodup (f : Nat → List (BitVec 8)) (idx : List Nat) (hn : idx.Nodup) (hlt : ∀ i ∈ idx, i < 255) : (xsOf (byIdx f idx)).Nodup := by
  rw [List.Nodup, List.pairwise_iff_getElem] at hn ⊢
  intro i j hi hj hij e
  rw [length_xsOf, length_byIdx] at hi hj
  rw [xsOf_get _ _ (by rw [length_byIdx]; exact hi), xsOf_get _ _ (by rw [length_byIdx]; exact hj), dX_byIdx _ _ _ hi, dX_byIdx _ _ _ hj] at e
  exact hn i j hi hj hij (ofNat_inj (hlt _ (List.getElem_mem hi)) (hlt _ (List.getElem_mem hj)) e)
theorem well_byIdx (f : Nat → List (BitVec 8)) (idx : List Nat) (len : Nat) (hn : idx.Nodup) (hlt : ∀ i ∈ idx, i < 255) (hl : ∀ i ∈ idx, (f i).length = len) : well (byIdx f idx) = true := by
  refine well_of _ (xs_byIdx_nodup f idx hn hlt) (fun k hk => ?_) (fun k hk => ?_)
  · rw [length_byIdx] at hk
    rw [dX_byIdx _ _ _ hk]
    exact ofNat_ne (hlt _ (List.getElem_mem hk))
  · rw [length_byIdx] at hk
    rw [dB_byIdx _ _ _ hk, dB_byIdx _ _ 0 (by omega), hl _ (List.getElem_mem hk), hl _ (List.getElem_mem _)]
theorem splitL_byIdx (s r : List (BitVec 8)) (need n : Nat) : splitL s r need n = byIdx (fun i => maskL s r need (BitVec.ofNat 8 (i + 1))) (List.range n) := rfl
/-- shares of polynomials, by numbers -/
theorem comb_byIdx (f : Nat → List (BitVec 8)) (idx : List Nat) (need : Nat) (s : List (BitVec 8)) (g : Nat → BitVec 8 → BitVec 8) (hn : idx.Nodup) (hlt : ∀ i ∈ idx, i < 255) (h1 : 1 ≤ need) (hle : need ≤ idx.length) (hg : ∀ i, i < s.length → IsPoly need (g i))
    (hl : ∀ j ∈ idx, (f j).length = s.length) (hv : ∀ j ∈ idx, ∀ i, i < s.length → (f j).getD i 0#8 = g i (BitVec.ofNat 8 (j + 1))) (h0 : ∀ i, i < s.length → g i 0#8 = s.getD i 0#8) : combR (byIdx f idx) need = some s := by
  refine comb_poly _ need s g (well_byIdx f idx s.length hn hlt hl) h1 (by rw [length_byIdx]; exact hle) hg (fun d hd => ?_) (fun d hd => ?_) h0
  · obtain ⟨j, hj, rfl⟩ := List.mem_map.1 hd
    exact hl j hj
  · obtain ⟨j, hj, rfl⟩ := List.mem_map.1 hd
    exact hv j hj
theorem isPoly_polyOf (s r : List (BitVec 8)) (need i : Nat) (h : 1 ≤ need) : IsPoly need (ev (polyOf s r need i)) := ⟨polyOf s r need i, by rw [length_polyOf _ _ _ _ h]; exact Nat.le_refl _, fun _ => rfl⟩

/-! ### law 6: reconstruction out of a selection -/
/-- the numbers that are chosen, each one once -/
def chooseI (n : Nat) : List (BitVec 8) → List Nat → List Nat
  | [], acc => acc
  | o :: os, acc => chooseI n os (if o.toNat % n ∈ acc then acc else acc ++ [o.toNat % n])
theorem chooseI_ok (n : Nat) (hn : 0 < n) (os : List (BitVec 8)) : ∀ acc, acc.Nodup → (∀ i ∈ acc, i < n) → (chooseI n os acc).Nodup ∧ ∀ i ∈ chooseI n os acc, i < n := by
  induction os with
  | nil => intro acc h1 h2; exact ⟨h1, h2⟩
  | cons o os ih =>
    intro acc h1 h2
    rw [chooseI]
    split
    · exact ih acc h1 h2
    · rename_i hm
      refine ih _ ?_ ?_
      · rw [List.nodup_append]
        exact ⟨h1, by simp, fun a ha b hb e => by simp at hb; subst hb; subst e; exact hm ha⟩
      · intro i hi
        rcases List.mem_append.1 hi with h | h
        · exact h2 i h
        · simp at h; subst h; exact Nat.mod_lt _ hn
def chooseL (D : Dat) (order : List (BitVec 8)) : Dat := if D.length = 0 then [] else (chooseI D.length order []).map fun i => D.getD i (0#8, [])
theorem map_byIdx (f : Nat → List (BitVec 8)) (n : Nat) (idx : List Nat) (h : ∀ i ∈ idx, i < n) : (idx.map fun i => (byIdx f (List.range n)).getD i (0#8, [])) = byIdx f idx := by
  apply List.map_congr_left
  intro i hi
  have := h i hi
  simp [byIdx, List.getD, this]
theorem choose_byIdx (f : Nat → List (BitVec 8)) (n : Nat) (hn : 0 < n) (order : List (BitVec 8)) : chooseL (byIdx f (List.range n)) order = byIdx f (chooseI n order []) := by
  rw [chooseL, length_byIdx, List.length_range, if_neg (by omega), map_byIdx _ _ _ (chooseI_ok n hn order [] (by simp) (by simp)).2]
theorem law_reconstruct (s r : List (BitVec 8)) (need n : Nat) (h1 : 1 ≤ need) (h2 : need ≤ n) (h3 : n ≤ 255) (order : List (BitVec 8)) (h : need ≤ (chooseL (splitL s r need n) order).length) :
    combR (chooseL (splitL s r need n) order) need = some s := by
  have hok := chooseI_ok n (by omega) order [] (by simp) (by simp)
  rw [splitL_byIdx, choose_byIdx _ _ (by omega)] at h ⊢
  rw [length_byIdx] at h
  refine comb_byIdx _ _ need s (fun i => ev (polyOf s r need i)) hok.1 (fun i hi => by have := hok.2 i hi; omega) h1 h (fun i _ => isPoly_polyOf s r need i h1) (fun j _ => length_maskL _ _ _ _) (fun j _ i hi => mask_ev _ _ _ _ _ hi) (fun i _ => polyOf_zero _ _ _ _)

/-! ### law 8: sums -/
def sumL (a b : List (BitVec 8)) : List (BitVec 8) := (List.range a.length).map fun i => a.getD i 0#8 ^^^ b.getD i 0#8
theorem length_sumL (a b : List (BitVec 8)) : (sumL a b).length = a.length := by simp [sumL]
theorem getD_sumL (a b : List (BitVec 8)) (i : Nat) (hi : i < a.length) : (sumL a b).getD i 0#8 = a.getD i 0#8 ^^^ b.getD i 0#8 := by simp [sumL, List.getD, hi]
def sumsL (D E : Dat) : Dat := (List.range D.length).map fun i => (dX D i, sumL (dB D i) (dB E i))
theorem sums_byIdx (f h : Nat → List (BitVec 8)) (n : Nat) : sumsL (byIdx f (List.range n)) (byIdx h (List.range n)) = byIdx (fun i => sumL (f i) (h i)) (List.range n) := by
  rw [sumsL, length_byIdx, List.length_range]
  apply List.map_congr_left
  intro i hi
  have hi' : i < n := List.mem_range.1 hi
  rw [dX_byIdx _ _ _ (by simpa using hi'), dB_byIdx _ _ _ (by simpa using hi'), dB_byIdx _ _ _ (by simpa using hi')]
  simp
theorem law_linear (s r t q : List (BitVec 8)) (need n : Nat) (h1 : 1 ≤ need) (h2 : need ≤ n) (h3 : n ≤ 255) (hl : s.length = t.length) : combR (sumsL (splitL s r need n) (splitL t q need n)) need = some (sumL s t) := by
  rw [splitL_byIdx, splitL_byIdx, sums_byIdx]
  refine comb_byIdx _ _ need _ (fun i x => ev (polyOf s r need i) x ^^^ ev (polyOf t q need i) x) List.nodup_range (fun i hi => by have := List.mem_range.1 hi; omega) h1 (by simpa using h2) (fun i _ => (isPoly_polyOf s r need i h1).add (isPoly_polyOf t q need i h1)) (fun j _ => by rw [length_sumL, length_sumL, length_maskL]) (fun j _ i hi => ?_) (fun i hi => ?_)
  · rw [length_sumL] at hi
    rw [getD_sumL _ _ _ (by rw [length_maskL]; exact hi), mask_ev _ _ _ _ _ hi, mask_ev _ _ _ _ _ (by rw [← hl]; exact hi)]
  · rw [length_sumL] at hi
    rw [getD_sumL _ _ _ hi]
    simp only [polyOf_zero]

/-! ### law 9: refreshed shares -/
theorem getD_maskL (s r : List (BitVec 8)) (need : Nat) (x : BitVec 8) (i : Nat) (hi : i < s.length) : (maskL s r need x).getD i 0#8 = s.getD i 0#8 ^^^ noiseV r need i x := by simp [maskL, List.getD, hi]
theorem refresh_byIdx (f : Nat → List (BitVec 8)) (idx : List Nat) (r : List (BitVec 8)) (need : Nat) : refreshL (byIdx f idx) r need = byIdx (fun i => maskL (f i) r need (BitVec.ofNat 8 (i + 1))) idx := by
  simp [refreshL, byIdx, Function.comp_def]
theorem isPoly_noise (r : List (BitVec 8)) (need i : Nat) (h : 1 ≤ need) : IsPoly need (fun x => noiseV r need i x) :=
  ⟨0#8 :: coefs r (i * (need - 1)) (need - 1), by simp only [List.length_cons, length_coefs]; omega, fun x => by show noiseV r need i x = _; rw [← noise_ev]; simp⟩
theorem noise_zero (r : List (BitVec 8)) (need i : Nat) : noiseV r need i 0#8 = 0#8 := by
  have := noise_ev 0#8 r need i 0#8
  rw [ev_zero] at this
  simpa using this
theorem law_refresh (s r q : List (BitVec 8)) (need n : Nat) (h1 : 1 ≤ need) (h2 : need ≤ n) (h3 : n ≤ 255) :
    well (splitL s r need n) = true ∧ combR (refreshL (splitL s r need n) q need) need = some s ∧ combR (sumsL (splitL s r need n) (refreshL (splitL s r need n) q need)) need = some (List.replicate s.length 0#8) := by
  have hlt : ∀ i ∈ List.range n, i < 255 := fun i hi => by have := List.mem_range.1 hi; omega
  rw [splitL_byIdx, refresh_byIdx, sums_byIdx]
  refine ⟨well_byIdx _ _ s.length List.nodup_range hlt (fun i _ => length_maskL _ _ _ _), ?_, ?_⟩
  · refine comb_byIdx _ _ need _ (fun i x => ev (polyOf s r need i) x ^^^ noiseV q need i x) List.nodup_range hlt h1 (by simpa using h2) (fun i _ => (isPoly_polyOf s r need i h1).add (isPoly_noise q need i h1)) (fun j _ => by rw [length_maskL, length_maskL]) (fun j _ i hi => ?_) (fun i hi => ?_)
    · rw [getD_maskL _ _ _ _ _ (by rw [length_maskL]; exact hi), mask_ev _ _ _ _ _ hi]
    · simp only [polyOf_zero, noise_zero]; simp
  · refine comb_byIdx _ _ need _ (fun i x => noiseV q need i x) List.nodup_range hlt h1 (by simpa using h2) (fun i _ => isPoly_noise q need i h1) (fun j _ => by rw [length_sumL, length_maskL]; simp) (fun j _ i hi => ?_) (fun i hi => ?_)
    · simp only [List.length_replicate] at hi
      rw [getD_sumL _ _ _ (by rw [length_maskL]; exact hi), getD_maskL (maskL _ _ _ _) _ _ _ _ (by rw [length_maskL]; exact hi), ← BitVec.xor_assoc]
      simp
    · simp only [noise_zero]
      simp only [List.length_replicate] at hi
      simp [List.getD, hi]

/-! ### law 10: changes are found -/
theorem dX_set (D : Dat) (k j : Nat) (d : BitVec 8 × List (BitVec 8)) (hk : k < D.length) : dX (D.set k d) j = if k = j then d.1 else dX D j := by
  simp only [dX, List.getD, List.getElem?_set]
  split
  · rename_i e; subst e; simp
  · rfl
theorem dB_set (D : Dat) (k j : Nat) (d : BitVec 8 × List (BitVec 8)) (hk : k < D.length) : dB (D.set k d) j = if k = j then d.2 else dB D j := by
  simp only [dB, List.getD, List.getElem?_set]
  split
  · rename_i e; subst e; simp
  · rfl
theorem split_dX (s r : List (BitVec 8)) (need n k : Nat) (hk : k < n) : dX (splitL s r need n) k = BitVec.ofNat 8 (k + 1) := by
  rw [splitL_byIdx, dX_byIdx _ _ _ (by simpa using hk)]; simp
theorem split_dB (s r : List (BitVec 8)) (need n k : Nat) (hk : k < n) : dB (splitL s r need n) k = maskL s r need (BitVec.ofNat 8 (k + 1)) := by
  rw [splitL_byIdx, dB_byIdx _ _ _ (by simpa using hk)]; simp
theorem length_splitL (s r : List (BitVec 8)) (need n : Nat) : (splitL s r need n).length = n := by simp [splitL]
theorem law_changed (s r : List (BitVec 8)) (need n k i : Nat) (h1 : 1 ≤ need) (h2 : need < n) (h3 : n ≤ 255) (hk : k < n) (hi : i < s.length) (x : BitVec 8) (hx : x ≠ 0#8) (b : List (BitVec 8)) (hb : b = (dB (splitL s r need n) k).set i ((dB (splitL s r need n) k).getD i 0#8 ^^^ x)) :
    combR ((splitL s r need n).set k (dX (splitL s r need n) k, b)) need = none := by
  have hkl : k < (splitL s r need n).length := by rw [length_splitL]; exact hk
  have hbl : b.length = s.length := by rw [hb, List.length_set, split_dB _ _ _ _ _ hk, length_maskL]
  refine comb_changed _ need h1 (by rw [List.length_set, length_splitL]; exact h2) k i (by rw [List.length_set]; exact hkl) ?_ (ev (polyOf s r need i)) (isPoly_polyOf s r need i h1) (fun j hj hjk => ?_) ?_
  · rw [dB_set _ _ _ _ hkl]
    split
    · exact hbl ▸ hi
    · rw [split_dB _ _ _ _ _ (by omega), length_maskL]; exact hi
  · rw [List.length_set, length_splitL] at hj
    rw [dB_set _ _ _ _ hkl, if_neg (fun e => hjk e.symm), dX_set _ _ _ _ hkl, if_neg (fun e => hjk e.symm), split_dB _ _ _ _ _ hj, split_dX _ _ _ _ _ hj, mask_ev _ _ _ _ _ hi]
  · rw [dB_set _ _ _ _ hkl, if_pos rfl, dX_set _ _ _ _ hkl, if_pos rfl]
    show b.getD i 0#8 ≠ ev (polyOf s r need i) (dX (splitL s r need n) k)
    rw [split_dX _ _ _ _ _ hk, ← mask_ev _ _ _ _ _ hi, hb, split_dB _ _ _ _ _ hk]
    have hm : i < (maskL s r need (BitVec.ofNat 8 (k + 1))).length := by rw [length_maskL]; exact hi
    generalize maskL s r need (BitVec.ofNat 8 (k + 1)) = m at hm ⊢
    intro e
    simp only [List.getD, List.getElem?_set, if_pos hm, if_true, Option.getD_some, List.getElem?_eq_getElem hm] at e
    have := congrArg (m[i] ^^^ ·) e
    simp only [← BitVec.xor_assoc, BitVec.xor_self, BitVec.zero_xor] at this
    exact hx this
theorem law_repeated (s r : List (BitVec 8)) (need n k : Nat) (h2 : 2 ≤ n) (hk : k < n) (b : List (BitVec 8)) : combR ((splitL s r need n).set k (dX (splitL s r need n) ((k + 1) % n), b)) need = none := by
  have hkl : k < (splitL s r need n).length := by rw [length_splitL]; exact hk
  refine comb_ill _ _ ?_
  cases hw : well ((splitL s r need n).set k (dX (splitL s r need n) ((k + 1) % n), b)) with
  | false => rfl
  | true =>
    exfalso
    have hlt : (k + 1) % n < n := Nat.mod_lt _ (by omega)
    have hne : k ≠ (k + 1) % n := by
      intro e
      by_cases h : k + 1 < n
      · rw [Nat.mod_eq_of_lt h] at e; omega
      · rw [show k + 1 = n by omega, Nat.mod_self] at e; omega
    refine hne (well_inj _ hw k ((k + 1) % n) (by rw [List.length_set]; exact hkl) (by rw [List.length_set, length_splitL]; exact hlt) ?_)
    rw [dX_set _ _ _ _ hkl, if_pos rfl, dX_set _ _ _ _ hkl, if_neg hne]
theorem law_zero (D : Dat) (need k : Nat) (hk : k < D.length) (b : List (BitVec 8)) : combR (D.set k (0#8, b)) need = none := by
  refine comb_ill _ _ (well_false _ k (by rw [List.length_set]; exact hk) fun h => ?_)
  exact h.1 (by rw [dX_set _ _ _ _ hk, if_pos rfl])
theorem law_long (s r : List (BitVec 8)) (need n k : Nat) (h2 : 2 ≤ n) (hk : k < n) (x : BitVec 8) (b : List (BitVec 8)) (hb : b.length ≠ s.length) : combR ((splitL s r need n).set k (x, b)) need = none := by
  have hkl : k < (splitL s r need n).length := by rw [length_splitL]; exact hk
  have hln : ∀ j, j < n → (dB ((splitL s r need n).set k (x, b)) j).length = if k = j then b.length else s.length := fun j hj => by
    rw [dB_set _ _ _ _ hkl]
    split
    · rfl
    · rw [split_dB _ _ _ _ _ hj, length_maskL]
  refine comb_ill _ _ (well_false _ (if k = 0 then 1 else k) (by rw [List.length_set, length_splitL]; split <;> omega) fun h => ?_)
  have h3 := h.2.2
  by_cases e : k = 0
  · rw [if_pos e, hln 1 (by omega), hln 0 (by omega), if_neg (by omega), if_pos e] at h3
    exact hb h3.symm
  · rw [if_neg e, hln k hk, hln 0 (by omega), if_pos rfl, if_neg e] at h3
    exact hb h3
/-! ### law 7: other random bytes for the same shares -/
theorem getD_padd (p q : List (BitVec 8)) (j : Nat) : (padd p q).getD j 0#8 = p.getD j 0#8 ^^^ q.getD j 0#8 := by
  induction p generalizing q j with
  | nil => simp [padd]
  | cons a p ih =>
    cases q with
    | nil => simp [padd]
    | cons b q =>
      cases j with
      | zero => simp [padd]
      | succ j => simpa [padd] using ih q j
theorem getD_pscale (c : BitVec 8) (p : List (BitVec 8)) (j : Nat) : (pscale c p).getD j 0#8 = mul c (p.getD j 0#8) := by
  simp only [pscale, List.getD, List.getElem?_map]
  cases p[j]? <;> simp [mul_zero]
def nwB (D : Dat) : Nat → List (BitVec 8)
  | 0 => [0#8, 1#8]
  | k + 1 => padd (pscale (dX D k) (nwB D k)) (0#8 :: nwB D k)
/-- the factor of round k -/
def nwC (D : Dat) (i k : Nat) (f : List (BitVec 8)) : BitVec 8 := mul ((dB D k).getD i 0#8 ^^^ ev f (dX D k)) (inv (ev (nwB D k) (dX D k)))
def nwF (D : Dat) (c : BitVec 8) (i : Nat) : Nat → List (BitVec 8)
  | 0 => [c]
  | k + 1 => padd (nwF D c i k) (pscale (nwC D i k (nwF D c i k)) (nwB D k))
theorem length_nwB (D : Dat) (k : Nat) : (nwB D k).length = k + 2 := by
  induction k with
  | zero => rfl
  | succ k ih => rw [nwB, length_padd, length_pscale, List.length_cons, ih]; omega
theorem length_nwF (D : Dat) (c : BitVec 8) (i k : Nat) : (nwF D c i k).length = k + 1 := by
  induction k with
  | zero => rfl
  | succ k ih => rw [nwF, length_padd, length_pscale, ih, length_nwB]; omega
theorem ev_nwB (D : Dat) (k : Nat) (y : BitVec 8) : ev (nwB D (k + 1)) y = mul (dX D k ^^^ y) (ev (nwB D k) y) := by
  rw [nwB, ev_padd, ev_pscale, add_mul, ev]; simp
theorem nwB_zero (D : Dat) (k : Nat) : ev (nwB D k) 0#8 = 0#8 := by
  induction k with
  | zero => rw [ev_zero]; rfl
  | succ k ih => rw [ev_nwB, ih, mul_zero]
theorem nwB_hit (D : Dat) (k j : Nat) (h : j < k) : ev (nwB D k) (dX D j) = 0#8 := by
  induction k with
  | zero => omega
  | succ k ih =>
    rw [ev_nwB]
    by_cases e : j = k
    · subst e; simp [zero_mul]
    · rw [ih (by omega), mul_zero]
theorem nwB_ne (D : Dat) (k : Nat) (y : BitVec 8) (h0 : y ≠ 0#8) (h : ∀ j, j < k → dX D j ≠ y) : ev (nwB D k) y ≠ 0#8 := by
  induction k with
  | zero => simpa [nwB, ev, mul_zero, mul_one] using h0
  | succ k ih =>
    rw [ev_nwB]
    exact mul_ne_zero (fun e => h k (by omega) (xor_eq_zero e)) (ih fun j hj => h j (by omega))
theorem ev_nwF (D : Dat) (c : BitVec 8) (i k : Nat) (y : BitVec 8) : ev (nwF D c i (k + 1)) y = ev (nwF D c i k) y ^^^ mul (nwC D i k (nwF D c i k)) (ev (nwB D k) y) := by
  rw [nwF, ev_padd, ev_pscale]
theorem nwF_zero (D : Dat) (c : BitVec 8) (i k : Nat) : ev (nwF D c i k) 0#8 = c := by
  induction k with
  | zero => rw [ev_zero]; rfl
  | succ k ih => rw [ev_nwF, nwB_zero, mul_zero, ih]; simp
theorem nwF_at (D : Dat) (c : BitVec 8) (i : Nat) (hn : (xsOf D).Nodup) (hz : ∀ k, k < D.length → dX D k ≠ 0#8) : ∀ k, k ≤ D.length → ∀ j, j < k → ev (nwF D c i k) (dX D j) = (dB D j).getD i 0#8 := by
  intro k
  induction k with
  | zero => intro _ j h; omega
  | succ k ih =>
    intro hk j hj
    rw [ev_nwF]
    by_cases e : j = k
    · subst e
      have hne : ev (nwB D j) (dX D j) ≠ 0#8 := nwB_ne D j _ (hz j (by omega)) fun i hi e => by
        rw [List.Nodup, List.pairwise_iff_getElem] at hn
        exact hn i j (by rw [length_xsOf]; omega) (by rw [length_xsOf]; omega) hi (by rw [xsOf_get D i (by omega), xsOf_get D j (by omega)]; exact e)
      rw [nwC, mul_assoc, mul_comm (inv _), mul_inv _ hne, mul_one, BitVec.xor_comm, BitVec.xor_assoc]; simp
    · rw [nwB_hit D k j (by omega), mul_zero, ih (by omega) j (by omega)]; simp
theorem ev_pad (f : List (BitVec 8)) (y : BitVec 8) : ∀ n, f.length ≤ n → ev ((List.range n).map fun j => f.getD j 0#8) y = ev f y := by
  induction f with
  | nil =>
    intro n _
    have : ∀ m, ev (List.replicate m 0#8) y = 0#8 := by
      intro m
      induction m with
      | zero => rfl
      | succ m ih => rw [List.replicate_succ, ev, ih, mul_zero]; rfl
    have e : ((List.range n).map fun j => ([] : List (BitVec 8)).getD j 0#8) = List.replicate n 0#8 := by
      apply List.ext_getElem
      · simp
      · intro i h1 h2; simp
    rw [e, this]; rfl
  | cons a f ih =>
    intro n hn
    obtain ⟨m, rfl⟩ : ∃ m, n = m + 1 := ⟨n - 1, by simp at hn; omega⟩
    rw [List.range_succ_eq_map, List.map_cons, List.map_map, ev, ev]
    have := ih m (by simp at hn; omega)
    simp only [Function.comp_def, List.getD_cons_succ, List.getD_cons_zero, this]
/-- the random bytes -/
def explL (s : List (BitVec 8)) (D : Dat) (need : Nat) : List (BitVec 8) :=
  (List.range (s.length * (need - 1))).map fun t => (nwF D (s.getD (t / (need - 1)) 0#8) (t / (need - 1)) D.length).getD (t % (need - 1) + 1) 0#8
theorem length_explL (s : List (BitVec 8)) (D : Dat) (need : Nat) : (explL s D need).length = s.length * (need - 1) := by simp [explL]
theorem explL_get (s : List (BitVec 8)) (D : Dat) (need i j : Nat) (hi : i < s.length) (hj : j < need - 1) : (explL s D need).getD (i * (need - 1) + j) 0#8 = (nwF D (s.getD i 0#8) i D.length).getD (j + 1) 0#8 := by
  have h1 : i * (need - 1) + j < s.length * (need - 1) := by
    have := Nat.mul_le_mul_right (need - 1) (show i + 1 ≤ s.length from hi)
    rw [Nat.add_mul] at this; omega
  have h2 : (i * (need - 1) + j) / (need - 1) = i := by rw [Nat.mul_comm, Nat.mul_add_div (by omega), Nat.div_eq_of_lt hj]; omega
  have h3 : (i * (need - 1) + j) % (need - 1) = j := by rw [Nat.mul_comm, Nat.mul_add_mod, Nat.mod_eq_of_lt hj]
  have : (explL s D need).getD (i * (need - 1) + j) 0#8 = (nwF D (s.getD ((i * (need - 1) + j) / (need - 1)) 0#8) ((i * (need - 1) + j) / (need - 1)) D.length).getD ((i * (need - 1) + j) % (need - 1) + 1) 0#8 := by
    simp only [explL, List.getD, List.getElem?_map, List.getElem?_range h1, Option.map_some, Option.getD_some]
  rw [this, h2, h3]
theorem law_secret (D : Dat) (s : List (BitVec 8)) (need j : Nat) (h1 : 1 ≤ need) (hK : D.length ≤ need - 1) (hn : (xsOf D).Nodup) (hz : ∀ k, k < D.length → dX D k ≠ 0#8) (hj : j < D.length) (hl : (dB D j).length = s.length) :
    maskL s (explL s D need) need (dX D j) = dB D j := by
  refine ext_bytes _ _ (by rw [length_maskL, hl]) fun i hi => ?_
  rw [length_maskL] at hi
  rw [mask_ev _ _ _ _ _ hi]
  have hf := length_nwF D (s.getD i 0#8) i D.length
  have h0 := nwF_zero D (s.getD i 0#8) i D.length
  have hat := nwF_at D (s.getD i 0#8) i hn hz D.length (Nat.le_refl _) j hj
  rw [← hat, ← ev_pad (nwF D (s.getD i 0#8) i D.length) _ need (by omega)]
  congr 1
  rw [polyOf]
  obtain ⟨m, hm⟩ : ∃ m, need = m + 1 := ⟨need - 1, by omega⟩
  have hc : coefs (explL s D need) (i * (need - 1)) (need - 1) = (List.range (need - 1)).map fun j => (nwF D (s.getD i 0#8) i D.length).getD (j + 1) 0#8 := by
    rw [coefs]
    apply List.map_congr_left
    intro t ht
    exact explL_get s D need i t hi (List.mem_range.1 ht)
  rw [hc]
  subst hm
  rw [List.range_succ_eq_map, List.map_cons, List.map_map, Nat.add_sub_cancel]
  congr 1
  have hd : ∀ f : List (BitVec 8), f.headD 0#8 = f.getD 0 0#8 := fun f => by cases f <;> rfl
  rw [ev_zero, hd] at h0
  exact h0.symm

/-! ### law 5: the reference -/
theorem mask_list (s r : List (BitVec 8)) (need : Nat) (x : BitVec 8) : maskL s r need x = (List.range s.length).map fun i => ev (polyOf s r need i) x := by
  apply List.map_congr_left
  intro i hi
  rw [polyOf, ← noise_ev]
theorem noise_ev0 (r : List (BitVec 8)) (need i : Nat) (x : BitVec 8) : ev (0#8 :: coefs r (i * (need - 1)) (need - 1)) x = noiseV r need i x := by
  rw [← noise_ev]; simp
theorem ev_drop (f : List (BitVec 8)) (x : BitVec 8) (i : Nat) (hi : i < f.length) : ev (f.drop i) x = mul (ev (f.drop (i + 1)) x) x ^^^ f.getD i 0#8 := by
  rw [List.drop_eq_getElem_cons hi, ev, mul_comm x, BitVec.xor_comm]
  simp [List.getD, hi]
/-- the products over and under -/
def ovF (D : Dat) (x : BitVec 8) (k : Nat) : Nat → BitVec 8
  | 0 => 1#8
  | j + 1 => if j = k then ovF D x k j else mul (ovF D x k j) (x ^^^ dX D j)
theorem inv_one : inv 1#8 = 1#8 := by decide +kernel
theorem wF_quot (D : Dat) (x : BitVec 8) (k j : Nat) : wF D x k j = mul (ovF D x k j) (inv (ovF D (dX D k) k j)) := by
  induction j with
  | zero => rw [wF, ovF, ovF, inv_one, mul_one]
  | succ j ih =>
    rw [wF, ovF, ovF]
    by_cases e : j = k
    · rw [if_pos e, if_pos e, if_pos e, ih]
    · rw [if_neg e, if_neg e, if_neg e, ih, inv_mul]
      ac_rfl
end Go.Proofs.Ytpghdiklleedaaa
