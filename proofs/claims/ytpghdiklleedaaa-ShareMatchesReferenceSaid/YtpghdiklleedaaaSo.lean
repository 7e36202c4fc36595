/- The contract of the reference's Sorted. -/
import Derived.Test.YtpghdiklleedaaaWe
set_option linter.all false
namespace Go.Proofs.Ytpghdiklleedaaa
open Go.RowKit Go.Fen Gf
set_option maxHeartbeats 400000

theorem Try.info3 : (Try.prog.info? 3).map (fun i => (i.zero, i.size, i.bytes)) = some (some (.int .i64 0), 1, 8) := by kernel_rfl
theorem madeI (n : Nat) : madeCells #[Value.int .i64 0] n = icells (List.replicate n 0) := by
  apply Array.ext
  · simp [madeCells, icells]
  · intro i h1 h2
    simp [madeCells, icells, Nat.mod_one]
theorem madeZ : madeCells #[Value.int .i64 0] 256 = icells z256 := by rw [madeI]; unfold z256; rfl
theorem sortU_one (L : List Shr) (A : List Int) (h : ¬ 0 < A.getD 0 0) : sortU L A 1 = [] := by
  rw [sortU_miss L A 0 h]; rfl

set_option maxRecDepth 20000 in
set_option maxHeartbeats 4000000 in
theorem sorted_any (a : Option Addr) (L : List Shr) (n c : Nat) (en : n = L.length) (hL : n ≤ 1000000) (hw : well (dat L) = true) (w : World) (hs : Shs w a L) :
    Calls Try.prog 37 #[.slice a n c] w fun e w' => ∃ a' c', e = .returned (.slice a' (sortS L).length c') ∧ (sortS L).length ≤ c' ∧ Shs w' a' (sortS L) ∧ Below w.heap.size w w' := by
  obtain ⟨B, hB⟩ : ∃ B, B = w.heap.size := ⟨_, rfl⟩
  have hmk := run_make_row' (P := Try.prog) 71 3 (.int .i64 0) 8 Try.underlying71 Try.info3 rfl .i64 .i64 256 (by omega) (by omega)
  rw [madeZ] at hmk
  have hmk2 : ∀ W, (Instr.makeSlice 71 (.int .i64 256) (.int .i64 256)).run Try.prog W = .ok (.slice (some ⟨W.heap.size, 0, none⟩) 256 256) (W.alloc (.cells (icells z256) 3)) := fun W => hmk W
  obtain ⟨W1, hW1⟩ : ∃ W, W = w.alloc (.cells (icells z256) 3) := ⟨_, rfl⟩
  have r0 : Row W1 B 3 (icells (atF (dat L) 0)) := by rw [hW1]; exact Row.new' _ _ hB
  have b0 : Below B w W1 := by rw [hW1, hB]; exact (Below.refl _ _).alloc (Nat.le_refl _) _
  have hz0 : Hid (¬ 0 < (atF (dat L) n).getD 0 0) := Lib.hid fun h => by
    obtain ⟨j, hj, _, e⟩ := atF_pos _ _ _ h
    have := ((well_iff _).1 hw j (by rw [length_dat, ← en]; exact hj)).1
    exact this (BitVec.eq_of_toNat_eq (by rw [e]; rfl))
  have hsS : Hid (sortS L = sortU L (atF (dat L) n) 256) := Lib.hid (by rw [sortS, en])
  have N := Lib.hid en
  have HS := Lib.hid hs
  have HBB := Lib.hid hB
  have HW1 := Lib.hid hW1
  clear en hs hB hW1 hmk hw
  rw [← HBB.out]
  go_enter Try.func37, Try.ntmps37
  go_wp2_with fail
  rw [← HBB.out, ← HW1.out]
  clear hmk2
  go_loopw [4] (fun i wr => ∃ k : Nat, k ≤ n ∧ i = .int .i64 k ∧ Row wr B 3 (icells (atF (dat L) k)) ∧ Below B w wr) (fun i _ => n - (intOf i).toNat)
  case atStart => exact ⟨0, by omega, rfl, r0, b0⟩
  case round =>
    clear r0 b0
    obtain ⟨k, hk, rfl, r, hb⟩ := hrel
    by_cases hkn : k < n
    · obtain ⟨g, o, ea, hc⟩ : ∃ g o, a = some ⟨g, o, none⟩ ∧ ∀ i, i < L.length → w.cell? ⟨g, o + i * 2, none⟩ = some (.int .u8 (L.getD i zs).x.toNat) ∧ w.cell? ⟨g, o + i * 2 + 1, none⟩ = some (L.getD i zs).v := by
        rcases HS.out.cells with h | h
        · have := N.out; rw [h] at this; simp at this; omega
        · exact h
      subst ea
      have hgw : g < B := by rw [HBB.out]; exact block_lt_of_cell (a := ⟨g, o + k * 2, none⟩) (hc k (by rw [← N.out]; exact hkn)).1
      have q1 := (hb.cell (p := ⟨g, o + k * 2, none⟩) hgw).trans (hc k (by rw [← N.out]; exact hkn)).1
      have hstep : Hid (atF (dat L) (k + 1) = (atF (dat L) k).set (L.getD k zs).x.toNat ((k : Int) + 1)) := Lib.hid (by rw [atF, dX_dat])
      have x256 := (L.getD k zs).x.isLt
      have cu := (r.cell (L.getD k zs).x.toNat).trans (get_icells (atF (dat L) k) (L.getD k zs).x.toNat (by rw [length_atF]; exact x256))
      have fu := r.frozen (L.getD k zs).x.toNat
      generalize (L.getD k zs).x = x at *
      have xi : (x.toNat : Int) < 256 := by omega
      have ki : (k : Int) < (n : Int) := by omega
      have HKN := Lib.hid hkn
      have R := Lib.hid r
      have Hb := Lib.hid hb
      clear r hb hc hkn
      go_wp2_with fail
      go_roundw
      case rel => exact ⟨k + 1, HKN.out, by go_num, by rw [hstep.out, ← set_icells]; exact R.out.set x.toNat _, Hb.out.setCell (p := ⟨B, x.toNat, none⟩) (Nat.le_refl _) _⟩
      case measure => have := HKN.out; simp [intOf] <;> omega
    · have ek : k = n := by omega
      rw [ek] at r
      have kni : ¬ (k : Int) < (n : Int) := by omega
      obtain ⟨A, hA⟩ : ∃ A, A = atF (dat L) n := ⟨_, rfl⟩
      rw [← hA] at r hsS hz0
      have hab : Hid (∀ d, 0 ≤ A.getD d 0 ∧ A.getD d 0 ≤ n) := Lib.hid (by rw [hA]; exact atF_bound (dat L) n)
      have hla : Hid (A.length = 256) := Lib.hid (by rw [hA]; exact length_atF _ _)
      obtain ⟨B2, hB2⟩ : ∃ g, g = wr.heap.size := ⟨_, rfl⟩
      obtain ⟨W3, hW3⟩ : ∃ W, W = wr.alloc (.cells #[] 33) := ⟨_, rfl⟩
      have hF0 : BufS B2 (.slice (some ⟨B2, 0, none⟩) 0 0) (sortU L A 1) wr W3 := by rw [sortU_one L A (by have := hz0.out; omega), hW3]; exact BufS.lit0 hB2 (by rw [← hB2]; exact Below.refl _ _)
      have R := Lib.hid r
      have Hb := Lib.hid hb
      have HB2 := Lib.hid hB2
      have HW3 := Lib.hid hW3
      clear r hb hB2 hW3 hA ek hkn hk
      obtain ⟨wo, ewo⟩ : ∃ wo, wo = wr := ⟨_, rfl⟩
      rw [← ewo] at R Hb HB2 HW3 hF0 ⊢
      clear ewo
      clear wr
      go_wp2_with fail
      rw [← HB2.out, ← HW3.out]
      go_loopw [5, 6] (fun v i wr => ∃ d : Nat, 1 ≤ d ∧ d ≤ 256 ∧ i = .int .i64 d ∧ BufS B2 v (sortU L A d) wo wr) (fun _ i _ => 256 - (intOf i).toNat)
      case atStart => exact ⟨1, by omega, by omega, rfl, hF0⟩
      case round =>
        clear hF0
        obtain ⟨d, hd1, hd, rfl, hBf⟩ := hrel
        have hBw : Below B2 wo wr := hBf.2.1
        by_cases hd2 : d < 256
        · have rr := R.out.below hBw (by rw [HB2.out]; exact R.out.lt)
          have cd := (rr.cell d).trans (get_icells A d (by rw [hla.out]; exact hd2))
          have hAd := hab.out d
          have di : (d : Int) < 256 := by omega
          have HD1 := Lib.hid hd1
          have HD2 := Lib.hid hd2
          have hhit := Lib.hid (sortU_hit L A d)
          have hmiss := Lib.hid (sortU_miss L A d)
          have hlen := sortU_len L A d
          have HBf := Lib.hid hBf
          by_cases hpos : 0 < A.getD d 0
          · obtain ⟨j, hj⟩ : ∃ j : Nat, A.getD d 0 = (j : Int) + 1 := ⟨(A.getD d 0 - 1).toNat, by omega⟩
            have hjn : j < L.length := by rw [← N.out]; omega
            have hit := hhit.out hpos
            rw [hj, show ((j : Int) + 1 - 1).toNat = j by omega] at hit
            rw [hj] at cd
            obtain ⟨g, o, ea, hc⟩ : ∃ g o, a = some ⟨g, o, none⟩ ∧ ∀ i, i < L.length → w.cell? ⟨g, o + i * 2, none⟩ = some (.int .u8 (L.getD i zs).x.toNat) ∧ w.cell? ⟨g, o + i * 2 + 1, none⟩ = some (L.getD i zs).v := by
              rcases HS.out.cells with h | h
              · rw [h] at hjn; simp at hjn
              · exact h
            subst ea
            obtain ⟨av, cv, ev, hcv, hbs⟩ := HS.out.svs j hjn
            have hall : Below B w wr := Hb.out.trans (hBw.mono (by rw [HB2.out]; have := R.out.lt; omega))
            have hgw : g < B := by rw [HBB.out]; exact block_lt_of_cell (a := ⟨g, o + j * 2, none⟩) (hc j hjn).1
            have hcc := hc j hjn
            rw [ev] at hcc
            have hr : Hid (wr.rangeAt g (o + j * 2) [.int .u8 (L.getD j zs).x.toNat, .slice av (L.getD j zs).b.length cv]) := Lib.hid fun i v hv => by
              match i, hv with
              | 0, hv => simp at hv; subst hv; exact (hall.cell (p := ⟨g, o + j * 2, none⟩) hgw).trans hcc.1
              | 1, hv => simp at hv; subst hv; exact (hall.cell (p := ⟨g, o + j * 2 + 1, none⟩) hgw).trans hcc.2
              | (i + 2), hv => simp at hv
            have hjni : (j : Int) < (n : Int) := by rw [N.out]; omega
            have hsh : Hid (L.getD j zs = Shr.mk (L.getD j zs).x (.slice av (L.getD j zs).b.length cv) (L.getD j zs).b) := Lib.hid (by rw [← ev])
            have Hit := Lib.hid hit
            generalize hlb : (L.getD j zs).b.length = lb at *
            generalize hxx : (L.getD j zs).x = x at *
            have j0 : (0 : Int) < (j : Int) + 1 := by omega
            clear hc hcc hbs ev hcv hlb hxx hBf hit hj hjn hAd hpos hBw rr hall hd1 hd2 hd
            go_wp2_with (first | ((with_reducible show wpList _ _ _ (Oper.mk _ (Op.load _ _) _ _ _ _ :: _) _ _); refine wpList_load_mid rfl 33 (.tmp 40) rfl g (o + j * 2) rfl [.int .u8 x.toNat, .slice av lb cv] _ hr.out Try.underlying33 rfl Try.n33 ?_) | ((with_reducible show wpList _ _ _ (Oper.mk _ (Op.call _) _ _ _ _ :: _) _ _); refine wpList_push2' rfl (.tmp 33) (.tmp 42) rfl B2 _ (sortU L A d) rfl wo wr _ (L.getD j zs) (by rw [hsh.out]; rfl) (by rw [hsh.out]) HBf.out wr.heap.size rfl rfl (by omega) (fun v' w' hv' hg hown => ?_)))
            go_roundw
            case rel => exact ⟨d + 1, by omega, HD2.out, by go_num, by rw [Hit.out]; exact hv'⟩
            case measure => have := HD2.out; simp [intOf] <;> omega
          · have hz : A.getD d 0 = 0 := by omega
            have Hms := Lib.hid (hmiss.out hpos)
            rw [hz] at cd
            clear hBf hz hpos hAd hBw rr hd1 hd2 hd
            go_wp2_with fail
            go_roundw
            case rel => exact ⟨d + 1, by omega, HD2.out, by go_num, by rw [Hms.out]; exact HBf.out⟩
            case measure => have := HD2.out; simp [intOf] <;> omega
        · have ed : d = 256 := by omega
          rw [ed, ← hsS.out] at hBf
          obtain ⟨a', c', ev, hc', hsh⟩ := Shs.of_buf hBf (fun i hi => by
            obtain ⟨m, hm, he⟩ := sortU_mem L A 256 (fun d => by have := (hab.out d).2; rw [N.out] at this; exact this) _ (getD_mem _ i (by rw [← hsS.out]; exact hi))
            rw [hsS.out] at *
            rw [he]
            exact (HS.out.svs m hm).below (Hb.out.trans (hBf.2.1.mono (by rw [HB2.out]; have := R.out.lt; omega))) (by rw [HBB.out]; exact Nat.le_refl _))
          have HBe := Lib.hid (Hb.out.trans (hBf.2.1.mono (by rw [HB2.out]; have := R.out.lt; omega)))
          have HSh := Lib.hid hsh
          have di : ¬ (d : Int) < 256 := by omega
          clear hBf hBw hsh ed hd2 hd hd1
          subst ev
          go_wp2_with fail
          go_ret
          exact ⟨a', c', rfl, hc', HSh.out, HBe.out⟩
end Go.Proofs.Ytpghdiklleedaaa
