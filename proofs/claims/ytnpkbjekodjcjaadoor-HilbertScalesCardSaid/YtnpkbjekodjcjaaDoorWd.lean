/- The walk of law 7: the scale. -/
import Derived.Test.YtnpkbjekodjcjaaDoorWa
import Derived.Test.YtnpkbjekodjcjaaDoorSv
set_option linter.all false
namespace Go.Proofs.YtnpkbjekodjcjaaDoor
open Go.RowKit Go.Fen Hil
set_option linter.unusedVariables false
set_option maxHeartbeats 4000000

theorem sclK_mono (v w lo hi k : Int) (h : v ≤ w) : sclK v lo hi k ≤ sclK w lo hi k := by
  unfold sclK
  split
  · omega
  · exact scl_mono v w lo hi _ h
theorem sclK_lt (v lo hi k : Int) : sclK v lo hi k < 65536 := by
  unfold sclK
  split
  · omega
  · have := scl_lt v lo hi k.toNat
    have := pow_le16 k.toNat (by omega)
    omega

set_option maxRecDepth 20000 in
theorem scales_walk (v0 v1 v2 v3 o : Int) (w : World) (hT : Tab w) (hp : (-9223372036854775808 ≤ v0 ∧ v0 < 9223372036854775808) ∧ (-9223372036854775808 ≤ v1 ∧ v1 < 9223372036854775808) ∧ (-9223372036854775808 ≤ v2 ∧ v2 < 9223372036854775808) ∧ (-9223372036854775808 ≤ v3 ∧ v3 < 9223372036854775808)) (ho : -128 ≤ o ∧ o < 128) :
    Calls Tryd.prog 7 #[.agg #[.int .i64 v0, .int .i64 v1, .int .i64 v2, .int .i64 v3], .int .i8 o] w fun e w' => e = .returned (.bool true) ∧ Below w.heap.size w w' := by
  obtain ⟨h0, h1, h2, h3⟩ := hp
  obtain ⟨ob, hob⟩ : ∃ q : Nat, (q : Int) = o % 256 := ⟨(o % 256).toNat, by omega⟩
  obtain ⟨mo, hmo⟩ : ∃ m, m = ob % 16 := ⟨_, rfl⟩
  obtain ⟨m, hm⟩ : ∃ m, m = 1 + mo := ⟨_, rfl⟩
  have o1 : o % 256 = (ob : Int) := hob.symm
  have o2 : (ob : Int) % 16 = (mo : Int) := by omega
  have o3 : 1 + (mo : Int) = (m : Int) := by omega
  have m1 : 1 ≤ m := by omega
  have m2 : m ≤ 16 := by omega
  obtain ⟨s, hs⟩ : ∃ s, s = 2 ^ m := ⟨_, rfl⟩
  have s0 : 0 < s := by rw [hs]; exact two_pos m
  have s1 : s ≤ 65536 := by rw [hs]; exact pow_le16 m m2
  have t1 : (2 : Int) ^ m = (s : Int) := by rw [hs]; exact int_two_pow m
  obtain ⟨lo, hlo⟩ : ∃ l, l = if v3 < v2 then v3 else v2 := ⟨_, rfl⟩
  obtain ⟨hi, hhi⟩ : ∃ l, l = if v2 < v3 then v3 else v2 := ⟨_, rfl⟩
  have lh : lo ≤ hi := by rw [hlo, hhi]; split <;> split <;> omega
  have lob : -9223372036854775808 ≤ lo ∧ lo < 9223372036854775808 := by rw [hlo]; split <;> omega
  have hib : -9223372036854775808 ≤ hi ∧ hi < 9223372036854775808 := by rw [hhi]; split <;> omega
  obtain ⟨d, hd⟩ : ∃ d, d = (hi - lo).toNat := ⟨_, rfl⟩
  have c2 : IntKind.u64.wrap (IntKind.u64.wrap hi - IntKind.u64.wrap lo) = (d : Int) := by simp only [wrap64]; omega
  have dl : d < 18446744073709551616 := by omega
  have mn : (if v3 < v2 then v3 else v2) = lo := hlo.symm
  have mx : (if v2 < v3 then v3 else v2) = hi := hhi.symm
  have C1 := fun W => scale_any v0 v2 v3 o W h0 h2 h3
  have C2 := fun W => scale_any v1 v2 v3 o W h1 h2 h3
  have C3 := fun W => rscale_any v0 v2 v3 o W h0 h2 h3
  have C4 := fun W => rscale_any v1 v2 v3 o W h1 h2 h3
  have MO := sclK_mono v0 v1 v2 v3 o
  have L1 := sclK_lt v0 v2 v3 o
  have L2 := sclK_lt v1 v2 v3 o
  generalize sclK v0 v2 v3 o = a at *
  generalize sclK v1 v2 v3 o = b at *
  obtain ⟨F, hF⟩ : ∃ F : Int → Nat, F = fun v => sclK v lo hi m := ⟨_, rfl⟩
  have C5 : ∀ v W, (v = lo ∨ v = hi) → Calls Tryd.prog 15 #[.int .i64 v, .int .i64 lo, .int .i64 hi, .int .i64 m] W fun e w' => e = .returned (.int .u32 (F v)) ∧ ∃ q, w' = W.drewN q := fun v W hv => by
    rw [hF]
    rcases hv with rfl | rfl
    · exact scale_any v v hi m W lob lob hib
    · exact scale_any v lo v m W hib lob hib
  have e5 : F lo = 0 := by rw [hF]; show sclK lo lo hi m = 0; rw [sclK, if_neg (by omega), scl_lo lo hi _ lh]
  have e6 : ¬ d < s → F hi = s - 1 := fun h => by rw [hF]; show sclK hi lo hi m = s - 1; rw [sclK, if_neg (by omega), Int.toNat_natCast, scl_hi lo hi _ lh (by rw [← hs, ← hd]; omega), ← hs]
  clear hF
  have H1 := Lib.hid C1
  have H2 := Lib.hid C2
  have H3 := Lib.hid C3
  have H4 := Lib.hid C4
  have H5 := Lib.hid C5
  have E5 := Lib.hid e5
  have E6 := Lib.hid e6
  have MONO := Lib.hid MO
  obtain ⟨g, eg⟩ : ∃ g, g = w.heap.size := ⟨_, rfl⟩
  obtain ⟨W0, hW0⟩ : ∃ W, W = w.alloc (.cells #[.int .i64 v0, .int .i64 v1, .int .i64 v2, .int .i64 v3] 37) := ⟨_, rfl⟩
  have b0 : Below w.heap.size w W0 := by rw [hW0]; exact (Below.refl _ _).alloc (Nat.le_refl _) _
  have r0 : Row W0 g 37 #[.int .i64 v0, .int .i64 v1, .int .i64 v2, .int .i64 v3] := by rw [hW0]; exact Row.new' 37 _ eg
  have B0 := Lib.hid b0
  have HW0 := Lib.hid hW0
  have EG := Lib.hid eg
  have R0 := Lib.hid r0
  have HT := Lib.hid hT
  clear C1 C2 C3 C4 C5 e5 e6 MO hs b0 r0 hW0 eg hT hm hmo hob hlo hhi hd h0 h1 h2 h3 lob hib lh
  by_cases hv : v0 ≤ v1
  · have hab := MONO.out hv
    have d1 : decide (v0 ≤ v1) = true := decide_eq_true hv
    have da : decide ((b : Int) < (a : Int)) = false := decide_eq_false (by omega)
    have da' : decide (b < a) = false := decide_eq_false (by omega)
    clear hab hv
    by_cases hds : d < s
    · have d2 : decide ((d : Int) < (s : Int)) = true := decide_eq_true (by omega)
      have d2' : decide (d < s) = true := decide_eq_true hds
      clear hds
      go_enter Tryd.func7, Tryd.ntmps7
      go_wp2_with (first | ((with_reducible show wpList _ _ _ (Oper.mk _ (Op.box _ _) _ _ _ _ :: _) _ _); (refine wpList_box_row rfl 37 (.tmp 0) rfl _ rfl g EG.out ?_; refine wpList_atE HW0.out ?_)))
      refine (sanity_any _ (HT.out.below B0.out (Nat.le_refl _))).mono ?_
      rintro e w1 ⟨rfl, b'⟩
      have B1 := Lib.hid (bel_tr B0.out b')
      have r1 := R0.out.below b' R0.out.lt
      have c0 := r1.cell 0
      have c1 := r1.cell 1
      have c3 := r1.cell 2
      have c4 := r1.cell 3
      simp only [List.getElem?_toArray, List.getElem?_cons_zero, List.getElem?_cons_succ] at c0 c1 c3 c4
      clear b' r1
      go_wp2_with fail
      refine (H1.out _).mono ?_
      rintro e w2 ⟨rfl, q1, rfl⟩
      go_wp2_with fail
      refine (H2.out _).mono ?_
      rintro e w2 ⟨rfl, q2, rfl⟩
      go_wp2_with fail
      refine (H3.out _).mono ?_
      rintro e w2 ⟨rfl, q3, rfl⟩
      go_wp2_with fail
      refine (H4.out _).mono ?_
      rintro e w2 ⟨rfl, q4, rfl⟩
      go_wp2_with fail
      go_ret
      exact ⟨rfl, by first | exact below_drewN B1.out _ | exact below_drewN (below_drewN B1.out _) _⟩
    · have d2 : decide ((d : Int) < (s : Int)) = false := decide_eq_false (by omega)
      have d2' : decide (d < s) = false := decide_eq_false hds
      have FH := E6.out hds
      have FL := E5.out
      obtain ⟨sp, hsp⟩ : ∃ p, p = s - 1 := ⟨_, rfl⟩
      rw [← hsp] at FH
      have sp1 : (s : Int) - 1 = (sp : Int) := by omega
      have spl : sp ≤ 65535 := by omega
      clear hds hsp
      go_enter Tryd.func7, Tryd.ntmps7
      go_wp2_with (first | ((with_reducible show wpList _ _ _ (Oper.mk _ (Op.box _ _) _ _ _ _ :: _) _ _); (refine wpList_box_row rfl 37 (.tmp 0) rfl _ rfl g EG.out ?_; refine wpList_atE HW0.out ?_)))
      refine (sanity_any _ (HT.out.below B0.out (Nat.le_refl _))).mono ?_
      rintro e w1 ⟨rfl, b'⟩
      have B1 := Lib.hid (bel_tr B0.out b')
      have r1 := R0.out.below b' R0.out.lt
      have c0 := r1.cell 0
      have c1 := r1.cell 1
      have c3 := r1.cell 2
      have c4 := r1.cell 3
      simp only [List.getElem?_toArray, List.getElem?_cons_zero, List.getElem?_cons_succ] at c0 c1 c3 c4
      clear b' r1
      go_wp2_with fail
      refine (H1.out _).mono ?_
      rintro e w2 ⟨rfl, q1, rfl⟩
      go_wp2_with fail
      refine (H2.out _).mono ?_
      rintro e w2 ⟨rfl, q2, rfl⟩
      go_wp2_with fail
      refine (H3.out _).mono ?_
      rintro e w2 ⟨rfl, q3, rfl⟩
      go_wp2_with fail
      refine (H4.out _).mono ?_
      rintro e w2 ⟨rfl, q4, rfl⟩
      go_wp2_with fail
      obtain ⟨w9, hw9⟩ : ∃ W, W = w1.drewN (q1 + q2 + q3 + q4) := ⟨_, rfl⟩
      have B9 := Lib.hid (show Below w.heap.size w w9 by rw [hw9]; exact below_drewN B1.out _)
      rw [← hw9]
      clear hw9 c0 c1 c3 c4
      go_quiet (first | (go_at_call 15; exact Calls.quiet_of (H5.out _ _ (by first | exact .inl rfl | exact .inr rfl))))
      go_wp2_with fail
      go_ret
      exact ⟨rfl, below_drewN B9.out _⟩
  · have d1 : decide (v0 ≤ v1) = false := decide_eq_false hv
    clear hv
    by_cases hds : d < s
    · have d2 : decide ((d : Int) < (s : Int)) = true := decide_eq_true (by omega)
      have d2' : decide (d < s) = true := decide_eq_true hds
      clear hds
      go_enter Tryd.func7, Tryd.ntmps7
      go_wp2_with (first | ((with_reducible show wpList _ _ _ (Oper.mk _ (Op.box _ _) _ _ _ _ :: _) _ _); (refine wpList_box_row rfl 37 (.tmp 0) rfl _ rfl g EG.out ?_; refine wpList_atE HW0.out ?_)))
      refine (sanity_any _ (HT.out.below B0.out (Nat.le_refl _))).mono ?_
      rintro e w1 ⟨rfl, b'⟩
      have B1 := Lib.hid (bel_tr B0.out b')
      have r1 := R0.out.below b' R0.out.lt
      have c0 := r1.cell 0
      have c1 := r1.cell 1
      have c3 := r1.cell 2
      have c4 := r1.cell 3
      simp only [List.getElem?_toArray, List.getElem?_cons_zero, List.getElem?_cons_succ] at c0 c1 c3 c4
      clear b' r1
      go_wp2_with fail
      refine (H1.out _).mono ?_
      rintro e w2 ⟨rfl, q1, rfl⟩
      go_wp2_with fail
      refine (H2.out _).mono ?_
      rintro e w2 ⟨rfl, q2, rfl⟩
      go_wp2_with fail
      refine (H3.out _).mono ?_
      rintro e w2 ⟨rfl, q3, rfl⟩
      go_wp2_with fail
      refine (H4.out _).mono ?_
      rintro e w2 ⟨rfl, q4, rfl⟩
      go_wp2_with fail
      go_ret
      exact ⟨rfl, by first | exact below_drewN B1.out _ | exact below_drewN (below_drewN B1.out _) _⟩
    · have d2 : decide ((d : Int) < (s : Int)) = false := decide_eq_false (by omega)
      have d2' : decide (d < s) = false := decide_eq_false hds
      have FH := E6.out hds
      have FL := E5.out
      obtain ⟨sp, hsp⟩ : ∃ p, p = s - 1 := ⟨_, rfl⟩
      rw [← hsp] at FH
      have sp1 : (s : Int) - 1 = (sp : Int) := by omega
      have spl : sp ≤ 65535 := by omega
      clear hds hsp
      go_enter Tryd.func7, Tryd.ntmps7
      go_wp2_with (first | ((with_reducible show wpList _ _ _ (Oper.mk _ (Op.box _ _) _ _ _ _ :: _) _ _); (refine wpList_box_row rfl 37 (.tmp 0) rfl _ rfl g EG.out ?_; refine wpList_atE HW0.out ?_)))
      refine (sanity_any _ (HT.out.below B0.out (Nat.le_refl _))).mono ?_
      rintro e w1 ⟨rfl, b'⟩
      have B1 := Lib.hid (bel_tr B0.out b')
      have r1 := R0.out.below b' R0.out.lt
      have c0 := r1.cell 0
      have c1 := r1.cell 1
      have c3 := r1.cell 2
      have c4 := r1.cell 3
      simp only [List.getElem?_toArray, List.getElem?_cons_zero, List.getElem?_cons_succ] at c0 c1 c3 c4
      clear b' r1
      go_wp2_with fail
      refine (H1.out _).mono ?_
      rintro e w2 ⟨rfl, q1, rfl⟩
      go_wp2_with fail
      refine (H2.out _).mono ?_
      rintro e w2 ⟨rfl, q2, rfl⟩
      go_wp2_with fail
      refine (H3.out _).mono ?_
      rintro e w2 ⟨rfl, q3, rfl⟩
      go_wp2_with fail
      refine (H4.out _).mono ?_
      rintro e w2 ⟨rfl, q4, rfl⟩
      go_wp2_with fail
      obtain ⟨w9, hw9⟩ : ∃ W, W = w1.drewN (q1 + q2 + q3 + q4) := ⟨_, rfl⟩
      have B9 := Lib.hid (show Below w.heap.size w w9 by rw [hw9]; exact below_drewN B1.out _)
      rw [← hw9]
      clear hw9 c0 c1 c3 c4
      go_quiet (first | (go_at_call 15; exact Calls.quiet_of (H5.out _ _ (by first | exact .inl rfl | exact .inr rfl))))
      go_wp2_with fail
      go_ret
      exact ⟨rfl, below_drewN B9.out _⟩
end Go.Proofs.YtnpkbjekodjcjaaDoor
