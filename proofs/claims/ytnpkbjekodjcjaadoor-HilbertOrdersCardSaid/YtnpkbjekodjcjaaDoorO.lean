/- The contracts of the comparison by keys and of the insertion sort. -/
import Derived.Test.YtnpkbjekodjcjaaDoorN
import Derived.Test.YtnpkbjekodjcjaaDoorSo
import Derived.BigRegion
set_option linter.all false
namespace Go.Proofs.YtnpkbjekodjcjaaDoor
open Go.RowKit Go.Fen Hil
set_option linter.unusedVariables false
set_option maxHeartbeats 4000000

/-- the keys lie in memory, in a variable at bk -/
def KeysM (w : World) (bk gk m c : Nat) (K : List Nat) : Prop :=
  w.cell? ⟨bk, 0, none⟩ = some (.slice (some ⟨gk, 0, none⟩) m c) ∧ m = K.length ∧ ∀ i, i < m → w.cell? ⟨gk, i, none⟩ = some (.int .u64 (K.getD i 0))

theorem cmp_any (bk gk m c : Nat) (K : List Nat) (x y : Nat) (w : World) (hK : KeysM w bk gk m c K) (hx : x < m) (hy : y < m) (hm : m ≤ 1000000) :
    Calls Tryd.prog 34 #[.int .i64 x, .int .i64 y, .pointer (some ⟨bk, 0, none⟩)] w fun e w' => e = .returned (.int .i64 (cmpU (K.getD x 0) (K.getD y 0))) ∧ ∃ q, w' = w.drewN q := by
  obtain ⟨h1, h2, h3⟩ := hK
  have kx := h3 x hx
  have ky := h3 y hy
  generalize K.getD x 0 = u at *
  generalize K.getD y 0 = v at *
  have xi : (x : Int) < (m : Int) := by omega
  have yi : (y : Int) < (m : Int) := by omega
  have C := Lib.hid (fun w => compare_any u v w)
  clear h2 h3
  go_enter Tryd.func34, Tryd.ntmps34
  go_wp2
  go_quiet (first | (go_at_call 35; exact Calls.quiet_of_same (C.out _)))
  go_wp2
  go_ret
  exact ⟨rfl, nq, rfl⟩

def nc (D : List Nat) : Array Value := icells (D.map fun (x : Nat) => (x : Int))
theorem size_nc (D : List Nat) : (nc D).size = D.length := by simp [nc, size_icells]
theorem get_nc (D : List Nat) (i : Nat) (h : i < D.length) : (nc D)[i]? = some (.int .i64 (at' D i)) := by
  rw [nc, get_icells _ _ (by simpa using h)]
  simp [at', List.getD, h]
theorem set_nc (D : List Nat) (i x : Nat) : (nc D).setIfInBounds i (.int .i64 (x : Int)) = nc (D.set i x) := by
  rw [nc, set_icells, nc, List.map_set]

theorem ins_any (gd t n c a b bk gk m cm : Nat) (D K : List Nat) (w : World) (hR : Row w gd t (nc D)) (hK : KeysM w bk gk m cm K) (hb : b ≤ D.length) (hn : n = D.length) (hN : n ≤ 1000000) (ha : a ≤ 1000000) (hm : m ≤ 1000000) (hbk : bk ≠ gd) (hgk : gk ≠ gd)
    (hD : ∀ i, i < D.length → at' D i < m) (hI : ∀ p q, a ≤ p → p < q → q < b → at' D p < at' D q) :
    Calls Tryd.prog 51 #[.slice (some ⟨gd, 0, none⟩) n c, .int .i64 a, .int .i64 b, .func (.func 34) #[] #[.pointer (some ⟨bk, 0, none⟩)]] w fun e w' =>
      e = .returned (.tuple #[]) ∧ ∃ D', Row w' gd t (nc D') ∧ Mix a b D D' ∧ Srt K D' a b ∧ w.grownBy w' (some gd) := by
  have KB : ∀ wr, w.grownBy wr (some gd) → KeysM wr bk gk m cm K := fun wr h => by
    have l1 := block_lt_of_cell (a := ⟨bk, 0, none⟩) hK.1
    refine ⟨?_, hK.2.1, fun i hi => ?_⟩
    · rw [← hK.1]; simp only [World.cell?]; rw [h.block bk l1 (by simpa using hbk)]
    · have l2 := block_lt_of_cell (a := ⟨gk, i, none⟩) (hK.2.2 i hi)
      rw [← hK.2.2 i hi]; simp only [World.cell?]; rw [h.block gk l2 (by simpa using hgk)]
  have CM := Lib.hid (fun (x y : Nat) (wr : World) (hx : x < m) (hy : y < m) (hg : w.grownBy wr (some gd)) => cmp_any bk gk m cm K x y wr (KB wr hg) hx hy hm)
  have HR := Lib.hid hR
  have HD := Lib.hid hD
  have HI := Lib.hid hI
  have HN := Lib.hid hn
  have hbn : b ≤ 1000000 := by omega
  clear KB hK hR hD hI hn
  by_cases hab : a < b
  · go_enter Tryd.func51, Tryd.ntmps51
    go_wp2_with fail
    go_loopw [8, 9] (fun iv _ wr => ∃ (i : Nat) (E : List Nat), a < i ∧ i ≤ b ∧ iv = .int .i64 i ∧ Row wr gd t (nc E) ∧ Mix a i D E ∧ Srt K E a i ∧ w.grownBy wr (some gd)) (fun iv _ _ => b - (intOf iv).toNat)
    case atStart => exact ⟨a + 1, D, by omega, by omega, by go_num, HR.out, Mix.refl _ _ _, fun p q h1 h2 h3 => by omega, grown_refl _ _⟩
    case round =>
      obtain ⟨i, E, hai, hib, rfl, hRE, hME, hSE, hg⟩ := hrel
      by_cases hi : i < b
      · have ii : (i : Int) < (b : Int) := by omega
        have hl : ∀ p, a ≤ p → p < i → at' E p < at' E i := fun p p1 p2 => by
          obtain ⟨q, q1, q2, e⟩ := hME.2.2.1 p p1 p2
          rw [e, hME.2.1 i (by omega)]
          exact HI.out q i q1 q2 hi
        have ST := Lib.hid (Sink.start hSE hl)
        have HRE := Lib.hid hRE
        have HME := Lib.hid hME
        have HG := Lib.hid hg
        have HAI := Lib.hid hai
        have HIB := Lib.hid hi
        clear hl hRE hME hSE hg hai hib hi
        go_wp2_with fail
        go_loopw [9] (fun jv wr => ∃ (j : Nat) (F : List Nat), a ≤ j ∧ j ≤ i ∧ jv = .int .i64 j ∧ Row wr gd t (nc F) ∧ Mix a (i + 1) E F ∧ Sink K F a j i ∧ w.grownBy wr (some gd)) (fun jv _ => (intOf jv).toNat)
        case atStart => exact ⟨i, E, by have := HAI.out; omega, by omega, rfl, HRE.out, Mix.refl _ _ _, ST.out, HG.out⟩
        case round =>
          obtain ⟨j, F, haj, hji, rfl, hRF, hMF, hSF, hgF⟩ := hrel
          have lF : F.length = D.length := hMF.1.trans HME.out.1
          by_cases hj : a < j
          · have ji : (a : Int) < (j : Int) := by omega
            have jn : (j : Int) < (n : Int) := by have := HN.out; have := HIB.out; omega
            have jn1 : (j : Int) - 1 < (n : Int) := by omega
            have jp : (0 : Int) ≤ (j : Int) - 1 := by omega
            have x1 : (nc F)[j]? = some (.int .i64 (at' F j)) := get_nc F j (by have := HN.out; omega)
            have x2 : (nc F)[j - 1]? = some (.int .i64 (at' F (j - 1))) := get_nc F (j - 1) (by have := HN.out; omega)
            have c1 := (hRF.cell j).trans x1
            have c2 := (hRF.cell (j - 1)).trans x2
            have hmem : ∀ k, k < D.length → at' F k < m := fun k hk => by
              have M := (HME.out.wider (Nat.le_refl a) (show i ≤ i + 1 by omega)).trans hMF
              by_cases e : a ≤ k ∧ k < i + 1
              · obtain ⟨q, _, q2, e2⟩ := M.2.2.1 k e.1 e.2
                rw [e2]; exact HD.out q (by have := HIB.out; omega)
              · rw [M.2.1 k (by omega)]; exact HD.out k hk
            have call := CM.out (at' F j) (at' F (j - 1)) wr (hmem j (by have := HN.out; omega)) (hmem (j - 1) (by have := HN.out; omega)) hgF
            obtain ⟨x, hx⟩ : ∃ x, x = at' F j := ⟨_, rfl⟩
            obtain ⟨y, hy⟩ : ∃ y, y = at' F (j - 1) := ⟨_, rfl⟩
            rw [← hx] at c1 call
            rw [← hy] at c2 call
            obtain ⟨jm, hjm⟩ : ∃ jm, jm = j - 1 := ⟨_, rfl⟩
            rw [← hjm] at c2
            have ej : (j : Int) - 1 = (jm : Int) := by omega
            by_cases hk : K.getD x 0 < K.getD y 0
            · have CX := Lib.hid (fun q => CM.out x y (wr.drewN q) (by rw [hx]; exact hmem j (by have := HN.out; omega)) (by rw [hy]; exact hmem (j - 1) (by have := HN.out; omega)) (grown_drewN hgF q))
              rw [show cmpU (K.getD x 0) (K.getD y 0) = -1 by rw [cmpU, if_pos hk]] at CX
              have f1 := hRF.frozen j
              have f2 := hRF.frozen jm
              have SS := Lib.hid (hSF.step hj hji (by have := HN.out; omega) (by rw [← hx, ← hy]; exact hk))
              have MM := Lib.hid (hMF.trans (mix_swp F a (i + 1) j (j - 1) (by have := HN.out; omega) (by have := HN.out; omega) haj (by omega) (by omega) (by omega)))
              have EW : Hid (swp F j (j - 1) = (F.set j y).set jm x) := Lib.hid (by rw [swp, ← hx, ← hy, ← hjm])
              have HRF := Lib.hid hRF
              have HGF := Lib.hid hgF
              have HJI := Lib.hid hji
              have HJ := Lib.hid hj
              have HJM := Lib.hid hjm
              clear hRF hMF hSF hgF hmem call hk hx hy x1 x2 hji haj hj hjm lF
              go_wp2_with fail
              go_quiet (first | (exact Calls.quiet_of (CX.out _)))
              go_wp2_with fail
              go_region
              go_wp2_with fail
              go_roundw
              case rel =>
                refine ⟨jm, (F.set j y).set jm x, by have := HJ.out; have := HJM.out; omega, by have := HJI.out; have := HJM.out; omega, by first | rfl | go_num, ?_, ?_, ?_, ?_⟩
                · have := (((HRF.out.drewN (nq + 1)).set j (.int .i64 y)).set jm (.int .i64 x))
                  rw [set_nc, set_nc] at this
                  exact this
                · rw [← EW.out]; exact MM.out
                · rw [← EW.out, HJM.out]; exact SS.out
                · exact grown_set (grown_set (grown_drewN HGF.out _) _ _) _ _
              case measure => have := HJ.out; have := HJM.out; simp [intOf] <;> omega
            · obtain ⟨cv, hcv⟩ : ∃ cv, cv = cmpU (K.getD x 0) (K.getD y 0) := ⟨_, rfl⟩
              have CX := Lib.hid (fun q => CM.out x y (wr.drewN q) (by rw [hx]; exact hmem j (by have := HN.out; omega)) (by rw [hy]; exact hmem (j - 1) (by have := HN.out; omega)) (grown_drewN hgF q))
              rw [← hcv] at CX
              have cv0 : ¬ cv < 0 := by rw [hcv, cmpU, if_neg hk]; split <;> omega
              have SS := Lib.hid (hSF.stop haj hji (.inr (by rw [← hx, ← hy]; exact hk)))
              have MM := Lib.hid ((HME.out.wider (Nat.le_refl a) (show i ≤ i + 1 by omega)).trans hMF)
              have HRF := Lib.hid hRF
              have HGF := Lib.hid hgF
              clear hRF hMF hSF hgF hmem call hk hx hy x1 x2 hji haj hj hjm lF hcv
              go_wp2_with fail
              go_quiet (first | (exact Calls.quiet_of (CX.out _)))
              go_wp2_with fail
              go_roundw
              case rel => exact ⟨i + 1, F, by have := HAI.out; omega, HIB.out, by have := HIB.out; have := HN.out; go_num, HRF.out.drewN _, MM.out, SS.out, grown_drewN HGF.out _⟩
              case measure => have := HIB.out; simp [intOf] <;> omega
          · have ja : j = a := by omega
            have ji : ¬ (a : Int) < (j : Int) := by omega
            have dj : decide (a < j) = false := decide_eq_false (by omega)
            have SS := Lib.hid (hSF.stop haj hji (.inl ja))
            have MM := Lib.hid ((HME.out.wider (Nat.le_refl a) (show i ≤ i + 1 by omega)).trans hMF)
            have HRF := Lib.hid hRF
            have HGF := Lib.hid hgF
            clear hRF hMF hSF hgF hji haj hj ja lF
            go_wp2_with fail
            go_quiet (fail)
            go_wp2_with fail
            go_roundw
            case rel => exact ⟨i + 1, F, by have := HAI.out; omega, HIB.out, by have := HIB.out; have := HN.out; go_num, HRF.out.drewN _, MM.out, SS.out, grown_drewN HGF.out _⟩
            case measure => have := HIB.out; simp [intOf] <;> omega
      · obtain rfl : i = b := by omega
        have ii : ¬ (i : Int) < (i : Int) := by omega
        have HRE := Lib.hid hRE
        have HME := Lib.hid hME
        have HSE := Lib.hid hSE
        have HG := Lib.hid hg
        clear hRE hME hSE hg
        go_wp2_with fail
        go_end0
        exact ⟨rfl, E, HRE.out, HME.out, HSE.out, HG.out⟩
  · go_enter Tryd.func51, Tryd.ntmps51
    go_wp2_with fail
    go_loopw [8, 9] (fun iv _ wr => iv = .int .i64 ((a : Int) + 1) ∧ wr = w) (fun iv _ _ => 0)
    case atStart => exact ⟨by go_num, rfl⟩
    case round =>
      obtain ⟨rfl, rfl⟩ := hrel
      have ii : ¬ (a : Int) + 1 < (b : Int) := by omega
      go_wp2_with fail
      go_end0
      exact ⟨rfl, D, HR.out, Mix.refl _ _ _, fun p q h1 h2 h3 => by omega, grown_refl _ _⟩
end Go.Proofs.YtnpkbjekodjcjaaDoor
