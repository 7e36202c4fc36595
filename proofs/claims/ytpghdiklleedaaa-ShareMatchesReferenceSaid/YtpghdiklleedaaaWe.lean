/- The contract of the reference's Well. -/
import Derived.Test.YtpghdiklleedaaaU
set_option linter.all false
namespace Go.Proofs.Ytpghdiklleedaaa
open Go.RowKit Go.Fen Gf
set_option maxHeartbeats 400000

/-- which points were met before share k -/
def usedB (D : Dat) (k : Nat) : List Bool := (List.range 256).map fun c => decide (0 < (atF D k).getD c 0)
theorem length_usedB (D : Dat) (k : Nat) : (usedB D k).length = 256 := by simp [usedB]
theorem usedB_get (D : Dat) (k c : Nat) (hc : c < 256) : (usedB D k).getD c false = decide (0 < (atF D k).getD c 0) := by
  simp only [usedB, List.getD, List.getElem?_map, List.getElem?_range hc, Option.map_some, Option.getD_some]
set_option maxRecDepth 20000 in
theorem usedB_zero (D : Dat) : usedB D 0 = List.replicate 256 false := by
  apply List.ext_getElem
  · rw [length_usedB, List.length_replicate]
  · intro i h1 h2
    have hi : i < 256 := by rw [length_usedB] at h1; exact h1
    have e : (usedB D 0)[i] = (usedB D 0).getD i false := by rw [List.getD, List.getElem?_eq_getElem h1]; rfl
    rw [List.getElem_replicate]
    exact e.trans (by rw [usedB_get _ _ _ hi, atF, getD_z256]; rfl)
theorem usedB_succ (D : Dat) (k : Nat) : usedB D (k + 1) = (usedB D k).set (dX D k).toNat true := by
  apply List.ext_getElem
  · simp [usedB]
  · intro i h1 h2
    simp only [usedB, List.getElem_set, List.getElem_map, List.getElem_range]
    rw [atF_succ]
    by_cases e : (dX D k).toNat = i
    · rw [if_pos e, if_pos e]; exact decide_eq_true (by omega)
    · rw [if_neg e, if_neg e]

set_option maxRecDepth 20000 in
set_option maxHeartbeats 2000000 in
theorem well_any (a : Option Addr) (L : List Shr) (n c : Nat) (en : n = L.length) (hL : n ≤ 1000000) (w : World) (hs : Shs w a L) :
    Calls Try.prog 36 #[.slice a n c] w fun e w' => e = .returned (.bool (well (dat L))) ∧ Below w.heap.size w w' := by
  obtain ⟨B, hB⟩ : ∃ B, B = w.heap.size := ⟨_, rfl⟩
  have hmk := run_make_row' (P := Try.prog) 65 4 (.bool false) 1 Try.underlying65 Try.info4 rfl .i64 .i64 256 (by omega) (by omega)
  rw [madeL] at hmk
  obtain ⟨W1, hW1⟩ : ∃ W, W = w.alloc (.cells (lcells (List.replicate 256 false)) 4) := ⟨_, rfl⟩
  have r0 : Row W1 B 4 (lcells (usedB (dat L) 0)) := by rw [hW1, usedB_zero]; exact Row.new' _ _ hB
  have b0 : Below B w W1 := by rw [hW1, hB]; exact (Below.refl _ _).alloc (Nat.le_refl _) _
  have N := Lib.hid en
  have HS := Lib.hid hs
  have HBB := Lib.hid hB
  have HW1 := Lib.hid hW1
  have hmk2 : ∀ W, (Instr.makeSlice 65 (.int .i64 256) (.int .i64 256)).run Try.prog W = .ok (.slice (some ⟨W.heap.size, 0, none⟩) 256 256) (W.alloc (.cells (lcells (List.replicate 256 false)) 4)) := fun W => hmk W
  have HWF := Lib.hid (well_false (dat L))
  have HWT : Hid ((∀ j, j < n → okAt (dat L) j) → well (dat L) = true) := Lib.hid fun h => (well_iff _).2 fun j hj => h j (by rw [length_dat, ← en] at hj; exact hj)
  generalize hw : well (dat L) = res at *
  clear en hs hB hW1 hmk hw
  rw [← HBB.out]
  generalize hrep : List.replicate 256 false = fl at *
  clear hrep
  go_enter Try.func36, Try.ntmps36
  go_wp2_with fail
  rw [← HBB.out, ← HW1.out]
  clear hmk2
  go_loopw [4] (fun i wr => ∃ k : Nat, k ≤ n ∧ i = .int .i64 k ∧ Row wr B 4 (lcells (usedB (dat L) k)) ∧ Below B w wr ∧ ∀ j, j < k → okAt (dat L) j) (fun i _ => n - (intOf i).toNat)
  case atStart => exact ⟨0, by omega, rfl, r0, b0, fun j hj => by omega⟩
  case round =>
    clear r0 b0
    obtain ⟨k, hk, rfl, r, hb, hall⟩ := hrel
    by_cases hkn : k < n
    · obtain ⟨g, o, ea, hc⟩ : ∃ g o, a = some ⟨g, o, none⟩ ∧ ∀ i, i < L.length → w.cell? ⟨g, o + i * 2, none⟩ = some (.int .u8 (L.getD i zs).x.toNat) ∧ w.cell? ⟨g, o + i * 2 + 1, none⟩ = some (L.getD i zs).v := by
        rcases HS.out.cells with h | h
        · have := N.out; rw [h] at this; simp at this; omega
        · exact h
      subst ea
      obtain ⟨av, cv, ev, _, _⟩ := HS.out.svs k (by rw [← N.out]; exact hkn)
      obtain ⟨a0, c0, ev0, _, _⟩ := HS.out.svs 0 (by rw [← N.out]; omega)
      have hgw : g < B := by rw [HBB.out]; exact block_lt_of_cell (a := ⟨g, o + k * 2, none⟩) (hc k (by rw [← N.out]; exact hkn)).1
      have q1 := (hb.cell (p := ⟨g, o + k * 2, none⟩) hgw).trans (hc k (by rw [← N.out]; exact hkn)).1
      have q2 := (hb.cell (p := ⟨g, o + k * 2 + 1, none⟩) hgw).trans (hc k (by rw [← N.out]; exact hkn)).2
      have q3 := (hb.cell (p := ⟨g, o + 0 * 2 + 1, none⟩) hgw).trans (hc 0 (by rw [← N.out]; omega)).2
      rw [ev] at q2
      rw [ev0] at q3
      simp only [Nat.zero_mul, Nat.add_zero] at q3
      have hok : Hid (okAt (dat L) k ↔ (L.getD k zs).x ≠ 0#8 ∧ (atF (dat L) k).getD (L.getD k zs).x.toNat 0 = 0 ∧ (L.getD k zs).b.length = (L.getD 0 zs).b.length) := Lib.hid (by rw [okAt, dX_dat, dB_dat, dB_dat])
      have hsucc : Hid (usedB (dat L) (k + 1) = (usedB (dat L) k).set (L.getD k zs).x.toNat true) := Lib.hid (by rw [usedB_succ, dX_dat])
      have x256 := (L.getD k zs).x.isLt
      have cu := (r.cell (L.getD k zs).x.toNat).trans (get_lcells _ _ (by rw [length_usedB]; exact x256))
      rw [usedB_get _ _ _ x256] at cu
      have fu := r.frozen (L.getD k zs).x.toNat
      have hab := (atF_bound (dat L) k (L.getD k zs).x.toNat).1
      have HNO : Hid (¬ okAt (dat L) k → res = false) := Lib.hid (HWF.out k (by rw [length_dat, ← N.out]; exact hkn))
      generalize hlb : (L.getD k zs).b.length = lb at *
      generalize hlb0 : (L.getD 0 zs).b.length = lb0 at *
      generalize (L.getD k zs).x = x at *
      generalize (atF (dat L) k).getD x.toNat 0 = av' at *
      have xi : (x.toNat : Int) < 256 := by omega
      have ki : (k : Int) < (n : Int) := by omega
      have R := Lib.hid r
      have Hb := Lib.hid hb
      have Hall := Lib.hid hall
      have HKN := Lib.hid hkn
      clear r hb hall hc ev ev0 hlb hlb0 hkn
      by_cases hx0 : x = 0#8
      · have hres := HNO.out (fun h => (hok.out.1 h).1 hx0)
        subst hres
        subst hx0
        go_wp2_with fail
        go_quiet (fail)
        go_wp2_with fail
        go_ret
        exact ⟨rfl, below_drewN Hb.out _⟩
      · have hx1 : ¬ ((x.toNat : Int) = 0) := by have := ne_zero_nat hx0; omega
        have hx2 : ((x.toNat : Int) == 0) = false := by simpa using hx1
        by_cases hav : 0 < av'
        · have hres := HNO.out (fun h => by have := (hok.out.1 h).2.1; omega)
          subst hres
          rw [decide_eq_true hav] at cu
          clear hab hav
          go_wp2_with fail
          go_quiet (fail)
          go_wp2_with fail
          go_ret
          exact ⟨rfl, below_drewN Hb.out _⟩
        · rw [decide_eq_false hav] at cu
          by_cases hlen : lb = lb0
          · have hgood : Hid (okAt (dat L) k) := Lib.hid (hok.out.2 ⟨hx0, by omega, hlen⟩)
            subst hlen
            clear hab hav
            go_wp2_with fail
            go_quiet (fail)
            go_wp2_with fail
            go_roundw
            case rel =>
              refine ⟨k + 1, HKN.out, by go_num, ?_, (below_drewN Hb.out nq).setCell (p := ⟨B, x.toNat, none⟩) (Nat.le_refl _) _, fun j hj => ?_⟩
              · rw [hsucc.out, ← set_lcells]
                exact (R.out.drewN nq).set x.toNat _
              · by_cases h : j < k
                · exact Hall.out j h
                · rw [show j = k by omega]; exact hgood.out
            case measure => have := HKN.out; simp [intOf] <;> omega
          · have hres := HNO.out (fun h => hlen (hok.out.1 h).2.2)
            subst hres
            have hl1 : ¬ ((lb : Int) = (lb0 : Int)) := by omega
            have hl2 : ((lb : Int) == (lb0 : Int)) = false := by simpa using hl1
            clear hab hav hlen
            go_wp2_with fail
            go_quiet (fail)
            go_wp2_with fail
            go_ret
            exact ⟨rfl, below_drewN Hb.out _⟩
    · have hres := HWT.out (fun j hj => hall j (by omega))
      subst hres
      have hkni : ¬ (k : Int) < (n : Int) := by omega
      have Hb := Lib.hid hb
      clear r hb hall
      go_wp2_with fail
      go_ret
      exact ⟨rfl, Hb.out⟩
end Go.Proofs.Ytpghdiklleedaaa
