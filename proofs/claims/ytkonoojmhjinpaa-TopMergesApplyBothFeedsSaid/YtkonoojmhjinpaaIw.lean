/- Contracts: items, walked. -/
import Derived.Test.YtkonoojmhjinpaaIm
set_option linter.all false
namespace Go.Proofs.Ytkonoojmhjinpaa
open Go.RowKit Go.Fen
set_option linter.unusedVariables false
set_option maxHeartbeats 4000000

/-- the pointer to an event's row -/
theorem ev_pt {w : World} {gl ol k : Nat} {E : List Ev} {x : Ev} (hE : Evs w (some ⟨gl, ol, none⟩) E) (hx : E[k]? = some x) : Pt w (some ⟨gl, ol + k * 3 + 2, none⟩) (some x.r) := by
  rcases hE.1 with h0 | ⟨g, o, ea, hg, hc, cs, fr, ht⟩
  · have := (List.getElem?_eq_some_iff.1 hx).1; omega
  · injection ea with ea
    injection ea with e1 e2
    subst e1 e2
    exact .inr ⟨gl, _, x.r, rfl, rfl, hg, hc k x hx 2 _ rfl, hE.2 x (List.mem_of_getElem? hx), cs, 71, fr, ht, .inr rfl⟩
set_option maxRecDepth 20000 in
theorem items_any (a : Option Addr) (E : List Ev) (n c : Nat) (w : World) (hn : n = E.length) (hE : Evs w a E) (hL : n ≤ 10000) : Calls Try.prog 28 #[.slice a n c] w fun e w' => ∃ v its, e = .returned v ∧ ItG w its v w' ∧ (∀ i ∈ its, IOk w i) ∧ its.map keyI = itemsK E ∧ its.length ≤ n := by
  have HE := Lib.hid hE
  have HN := Lib.hid hn
  have A0 := Lib.hid (show ItG w [] (.slice none 0 0) w from ⟨World.ownsRow_nil _ _ _ _, Below.refl _ _⟩)
  clear hE hn
  go_enter Try.func28, Try.ntmps28
  go_wp2_with fail
  go_loopw [10, 3] (fun iv u wr => ∃ (k : Nat) (VV : Value) (its : List It), k ≤ n ∧ iv = .int .i64 k ∧ VV = u ∧ ItG w its VV wr ∧ (∀ i ∈ its, IOk w i) ∧ its.map keyI = itemsK (E.take k) ∧ its.length ≤ k) (fun iv _ _ => n - (intOf iv).toNat)
  case atStart => exact ⟨0, _, [], by omega, rfl, rfl, A0.out, by simp, rfl, by simp⟩
  case round =>
    obtain ⟨k, VV, its, hk, rfl, rfl, hA, hok, hkey, hlen⟩ := hrel
    by_cases hkn : k < n
    · have ki : (k : Int) < (n : Int) := by omega
      obtain ⟨gl, ol, rfl, hgl, hc⟩ := HE.out.1.form (by rw [← HN.out]; omega)
      obtain ⟨x, hx⟩ : ∃ f, E[k]? = some f := ⟨_, List.getElem?_eq_getElem (by rw [← HN.out]; omega)⟩
      have HPT := Lib.hid (ev_pt HE.out hx)
      have HRX := Lib.hid (hc k x hx)
      have HGL := Lib.hid hgl
      have CC := Lib.hid (fun (W : World) (hb : Below w.heap.size w W) => (show W.cell? ⟨gl, ol + k * 3, none⟩ = some (.int .i64 x.k) ∧ W.cell? ⟨gl, ol + k * 3 + 1, none⟩ = some (.int .i64 x.n) from ⟨by have := range_below HRX.out hb HGL.out 0 _ rfl; rw [Nat.add_zero] at this; exact this, range_below HRX.out hb HGL.out 1 _ rfl⟩))
      have HT := Lib.hid (itemsK_take E k x hx)
      have HKN := Lib.hid hkn
      have HLE := Lib.hid hlen
      have HOK := Lib.hid hok
      have HKEY := Lib.hid hkey
      have HA := Lib.hid hA
      have c0 := (CC.out wr hA.2).1
      have c1 := (CC.out wr hA.2).2
      obtain ⟨M, hM⟩ : ∃ m, m = its.length := ⟨_, rfl⟩
      have hM2 : M ≤ 10000 := by omega
      have HM := Lib.hid hM
      clear hc hx hgl hkn hk hok hkey hlen
      rcases List.eq_nil_or_concat its with hnil | ⟨pre, z, hcat⟩
      · skip
        have hM0 : M = 0 := by rw [hM, hnil]; rfl
        subst hnil
        subst hM0
        clear hM
        obtain ⟨av, cv, eVV⟩ := owns_form HA.out.1
        simp only [List.length_nil] at eVV
        subst eVV
        by_cases hkk : x.k = 2
        · have hk2 : (x.k == 2) = true := beq_iff_eq.2 hkk
          have HK2 := Lib.hid hkk
          clear hkk
          go_wp2_with fail
          go_quiet (fail)
          have HO := Lib.hid (show (wr.drewN nq).ownsRow w.heap.size 87 3 (.slice av 0 cv) 0 (([] : List It).flatMap itc) ∧ w.heap.size ≤ (wr.drewN nq).heap.size from ⟨by have q := (HA.out.bel (below_drewN (Below.refl _ _) nq)).1; exact q, (HA.out.bel (below_drewN (Below.refl _ _) nq)).2.size⟩)
          have c1' : (wr.drewN nq).cell? ⟨gl, ol + k * 3 + 1, none⟩ = some (.int .i64 x.n) := (CC.out _ (HA.out.bel (below_drewN (Below.refl _ _) nq)).2).2
          go_wp2_with (first | ((with_reducible show wpList _ _ _ (Oper.mk _ (Op.call _) _ _ _ _ :: _) _ _); (refine wpList_pushK rfl (.tmp 34) (.tmp 41) 80 87 rfl _ 3 24 Try.underlying80 Try.info87 rfl (by decide) (by decide) w.heap.size (.slice av 0 cv) 0 (([] : List It).flatMap itc) rfl (wr.drewN nq) _ (itc (It.mk x.n none none none none)) rfl (one_itc _) rfl HO.out.1 HO.out.2 wr.heap.size rfl rfl (by omega) (fun ge ce w' hv' hg => ?_); have HG := Lib.hid (ItG.push (e := It.mk x.n none none none none) (HA.out.bel (below_drewN (Below.refl _ _) nq)) ((Below.refl _ _).alloc (Nat.le_refl _) _) hv' rfl hg); obtain ⟨cur, hrow⟩ := owns_row hv'; have f1 := hrow.frozen (0 * 3 + 1); have f2 := hrow.frozen (0 * 3 + 2); have HG1 := Lib.hid (show w'.ownsRow w.heap.size 87 3 (.slice (some ⟨ge, 0, none⟩) (([] : List It).length + 1) ce) (([] : List It).length + 1) ((([] : List It) ++ [It.mk x.n none none none none]).flatMap itc) from by have q := HG.out.1; rw [List.length_append, List.length_singleton] at q; exact q); have g1 : w'.cell? ⟨ge, 0 * 3 + 1, none⟩ = some (.pointer none) := (by have q := it_cell HG1.out 1 _ rfl; exact q); have g2 : w'.cell? ⟨ge, 0 * 3 + 2, none⟩ = some (.pointer none) := (by have q := it_cell HG1.out 2 _ rfl; exact q); have c5 := (CC.out w' HG.out.2).1; clear hv' hg hrow)))
          go_roundw
          case rel => exact ⟨k + 1, _, ([] : List It) ++ [It.mk x.n (some ⟨gl, ol + k * 3 + 2, none⟩) none (some x.r) none], HKN.out, by go_num, rfl, by
              have q := ItG.set (pre := ([] : List It)) (z := It.mk x.n none none none none) (z' := It.mk x.n (some ⟨gl, ol + k * 3 + 2, none⟩) none (some x.r) none) HG.out 1 (by decide) (.pointer (some ⟨gl, ol + k * 3 + 2, none⟩)) rfl
              exact q, fun i hi => by
              rcases List.mem_append.1 hi with q | q
              · exact HOK.out i q
              · rw [List.mem_singleton.1 q]; exact ⟨HPT.out, .inl ⟨rfl, rfl⟩⟩, by rw [HT.out, ← HKEY.out]; exact (by have q := (show stepI (([] : List It).map keyI) x = ([] : List It).map keyI ++ [setK (x.n, none, none) x] from rfl); rw [q]; have hkx := HK2.out; simp [setK, keyI, hkx]), by simp⟩
          case measure => have := HKN.out; simp [intOf] <;> omega
        · have hk2 : (x.k == 2) = false := beq_eq_false_iff_ne.2 hkk
          have HK2 := Lib.hid hkk
          clear hkk
          go_wp2_with fail
          go_quiet (fail)
          have HO := Lib.hid (show (wr.drewN nq).ownsRow w.heap.size 87 3 (.slice av 0 cv) 0 (([] : List It).flatMap itc) ∧ w.heap.size ≤ (wr.drewN nq).heap.size from ⟨by have q := (HA.out.bel (below_drewN (Below.refl _ _) nq)).1; exact q, (HA.out.bel (below_drewN (Below.refl _ _) nq)).2.size⟩)
          have c1' : (wr.drewN nq).cell? ⟨gl, ol + k * 3 + 1, none⟩ = some (.int .i64 x.n) := (CC.out _ (HA.out.bel (below_drewN (Below.refl _ _) nq)).2).2
          go_wp2_with (first | ((with_reducible show wpList _ _ _ (Oper.mk _ (Op.call _) _ _ _ _ :: _) _ _); (refine wpList_pushK rfl (.tmp 34) (.tmp 41) 80 87 rfl _ 3 24 Try.underlying80 Try.info87 rfl (by decide) (by decide) w.heap.size (.slice av 0 cv) 0 (([] : List It).flatMap itc) rfl (wr.drewN nq) _ (itc (It.mk x.n none none none none)) rfl (one_itc _) rfl HO.out.1 HO.out.2 wr.heap.size rfl rfl (by omega) (fun ge ce w' hv' hg => ?_); have HG := Lib.hid (ItG.push (e := It.mk x.n none none none none) (HA.out.bel (below_drewN (Below.refl _ _) nq)) ((Below.refl _ _).alloc (Nat.le_refl _) _) hv' rfl hg); obtain ⟨cur, hrow⟩ := owns_row hv'; have f1 := hrow.frozen (0 * 3 + 1); have f2 := hrow.frozen (0 * 3 + 2); have HG1 := Lib.hid (show w'.ownsRow w.heap.size 87 3 (.slice (some ⟨ge, 0, none⟩) (([] : List It).length + 1) ce) (([] : List It).length + 1) ((([] : List It) ++ [It.mk x.n none none none none]).flatMap itc) from by have q := HG.out.1; rw [List.length_append, List.length_singleton] at q; exact q); have g1 : w'.cell? ⟨ge, 0 * 3 + 1, none⟩ = some (.pointer none) := (by have q := it_cell HG1.out 1 _ rfl; exact q); have g2 : w'.cell? ⟨ge, 0 * 3 + 2, none⟩ = some (.pointer none) := (by have q := it_cell HG1.out 2 _ rfl; exact q); have c5 := (CC.out w' HG.out.2).1; clear hv' hg hrow)))
          go_roundw
          case rel => exact ⟨k + 1, _, ([] : List It) ++ [It.mk x.n none (some ⟨gl, ol + k * 3 + 2, none⟩) none (some x.r)], HKN.out, by go_num, rfl, by
              have q := ItG.set (pre := ([] : List It)) (z := It.mk x.n none none none none) (z' := It.mk x.n none (some ⟨gl, ol + k * 3 + 2, none⟩) none (some x.r)) HG.out 2 (by decide) (.pointer (some ⟨gl, ol + k * 3 + 2, none⟩)) rfl
              exact q, fun i hi => by
              rcases List.mem_append.1 hi with q | q
              · exact HOK.out i q
              · rw [List.mem_singleton.1 q]; exact ⟨.inl ⟨rfl, rfl⟩, HPT.out⟩, by rw [HT.out, ← HKEY.out]; exact (by have q := (show stepI (([] : List It).map keyI) x = ([] : List It).map keyI ++ [setK (x.n, none, none) x] from rfl); rw [q]; have hkx := HK2.out; simp [setK, keyI, hkx]), by simp⟩
          case measure => have := HKN.out; simp [intOf] <;> omega
      · skip
        have hcat : its = pre ++ [z] := by rw [hcat, List.concat_eq_append]
        obtain ⟨g, cv, eVV⟩ : ∃ g cv, VV = .slice (some ⟨g, 0, none⟩) M cv := by
          rcases HA.out.1.2 with ⟨_, h0⟩ | ⟨g, cap, cur, hv, _⟩
          · exfalso; rw [hcat] at h0; simp at h0
          · exact ⟨g, cap, by rw [hM]; exact hv⟩
        subst eVV
        obtain ⟨P, hP⟩ : ∃ p, p = pre.length := ⟨_, rfl⟩
        have hMP : M = P + 1 := by rw [hM, hcat, hP]; simp
        have m0 : ((M : Int) == 0) = false := beq_eq_false_iff_ne.2 (by omega)
        have m1 : (M : Int) - 1 = (P : Int) := by omega
        have m2 : P < M := by omega
        have HZ := Lib.hid (show ∀ (W : World), ItG w its (.slice (some ⟨g, 0, none⟩) M cv) W → (W.cell? ⟨g, P * 3, none⟩ = some (.int .i64 z.n) ∧ W.cell? ⟨g, P * 3 + 1, none⟩ = some (.pointer z.p) ∧ W.cell? ⟨g, P * 3 + 2, none⟩ = some (.pointer z.q) ∧ W.frozen? ⟨g, P * 3 + 1, none⟩ = false ∧ W.frozen? ⟨g, P * 3 + 2, none⟩ = false) from fun W hW => by
          have q := hW.1
          rw [← hM, hMP, hP, hcat] at q
          obtain ⟨cur, hrow⟩ := owns_row q
          rw [hP]
          exact ⟨by have := it_cell q 0 _ rfl; rw [Nat.add_zero] at this; exact this, it_cell q 1 _ rfl, it_cell q 2 _ rfl, hrow.frozen _, hrow.frozen _⟩)
        have z0 := (HZ.out wr HA.out).1
        have HCAT := Lib.hid hcat
        have HMP := Lib.hid hMP
        have HP := Lib.hid hP
        clear hM hcat hMP hP
        by_cases hzn : z.n = x.n
        · skip
          have HZN := Lib.hid hzn
          rw [hzn] at z0
          clear hzn
          by_cases hkk : x.k = 2
          · have hk2 : (x.k == 2) = true := beq_iff_eq.2 hkk
            have HK2 := Lib.hid hkk
            clear hkk
            go_wp2_with fail
            go_quiet (fail)
            have HA5 := Lib.hid (HA.out.bel (below_drewN (Below.refl _ _) nq))
            have c5 := (CC.out _ HA5.out.2).1
            have z1 := (HZ.out _ HA5.out).2.1
            have z2 := (HZ.out _ HA5.out).2.2.1
            have z3 := (HZ.out _ HA5.out).2.2.2.1
            have z4 := (HZ.out _ HA5.out).2.2.2.2
            go_wp2_with fail
            go_roundw
            case rel => exact ⟨k + 1, _, pre ++ [It.mk z.n (some ⟨gl, ol + k * 3 + 2, none⟩) z.q (some x.r) z.y], HKN.out, by go_num, rfl, by
                have q := ItG.set (pre := pre) (z := z) (z' := It.mk z.n (some ⟨gl, ol + k * 3 + 2, none⟩) z.q (some x.r) z.y) (by have q := HA5.out; rw [HMP.out, HP.out, HCAT.out] at q; exact q) 1 (by decide) (.pointer (some ⟨gl, ol + k * 3 + 2, none⟩)) rfl
                rw [← HP.out, ← HMP.out] at q; exact q, fun i hi => by
                rcases List.mem_append.1 hi with q | q
                · exact HOK.out i (by rw [HCAT.out]; exact List.mem_append_left _ q)
                · rw [List.mem_singleton.1 q]; exact ⟨HPT.out, (HOK.out z (by rw [HCAT.out]; simp)).2⟩, by rw [HT.out, ← HKEY.out]; rw [HCAT.out, stepI_old HZN.out]; have hkx := HK2.out; simp [setK, keyI, hkx], by have := HLE.out; rw [HCAT.out] at this; simp at this ⊢; omega⟩
            case measure => have := HKN.out; simp [intOf] <;> omega
          · have hk2 : (x.k == 2) = false := beq_eq_false_iff_ne.2 hkk
            have HK2 := Lib.hid hkk
            clear hkk
            go_wp2_with fail
            go_quiet (fail)
            have HA5 := Lib.hid (HA.out.bel (below_drewN (Below.refl _ _) nq))
            have c5 := (CC.out _ HA5.out.2).1
            have z1 := (HZ.out _ HA5.out).2.1
            have z2 := (HZ.out _ HA5.out).2.2.1
            have z3 := (HZ.out _ HA5.out).2.2.2.1
            have z4 := (HZ.out _ HA5.out).2.2.2.2
            go_wp2_with fail
            go_roundw
            case rel => exact ⟨k + 1, _, pre ++ [It.mk z.n z.p (some ⟨gl, ol + k * 3 + 2, none⟩) z.x (some x.r)], HKN.out, by go_num, rfl, by
                have q := ItG.set (pre := pre) (z := z) (z' := It.mk z.n z.p (some ⟨gl, ol + k * 3 + 2, none⟩) z.x (some x.r)) (by have q := HA5.out; rw [HMP.out, HP.out, HCAT.out] at q; exact q) 2 (by decide) (.pointer (some ⟨gl, ol + k * 3 + 2, none⟩)) rfl
                rw [← HP.out, ← HMP.out] at q; exact q, fun i hi => by
                rcases List.mem_append.1 hi with q | q
                · exact HOK.out i (by rw [HCAT.out]; exact List.mem_append_left _ q)
                · rw [List.mem_singleton.1 q]; exact ⟨(HOK.out z (by rw [HCAT.out]; simp)).1, HPT.out⟩, by rw [HT.out, ← HKEY.out]; rw [HCAT.out, stepI_old HZN.out]; have hkx := HK2.out; simp [setK, keyI, hkx], by have := HLE.out; rw [HCAT.out] at this; simp at this ⊢; omega⟩
            case measure => have := HKN.out; simp [intOf] <;> omega
        · skip
          have hne : (z.n == x.n) = false := beq_eq_false_iff_ne.2 hzn
          have HZN := Lib.hid hzn
          clear hzn
          by_cases hkk : x.k = 2
          · have hk2 : (x.k == 2) = true := beq_iff_eq.2 hkk
            have HK2 := Lib.hid hkk
            clear hkk
            go_wp2_with fail
            go_quiet (fail)
            have HO := Lib.hid (show (wr.drewN nq).ownsRow w.heap.size 87 3 (.slice (some ⟨g, 0, none⟩) M cv) M (its.flatMap itc) ∧ w.heap.size ≤ (wr.drewN nq).heap.size from ⟨by have q := (HA.out.bel (below_drewN (Below.refl _ _) nq)).1; rw [← HM.out] at q; exact q, (HA.out.bel (below_drewN (Below.refl _ _) nq)).2.size⟩)
            have c1' : (wr.drewN nq).cell? ⟨gl, ol + k * 3 + 1, none⟩ = some (.int .i64 x.n) := (CC.out _ (HA.out.bel (below_drewN (Below.refl _ _) nq)).2).2
            go_wp2_with (first | ((with_reducible show wpList _ _ _ (Oper.mk _ (Op.call _) _ _ _ _ :: _) _ _); (refine wpList_pushK rfl (.tmp 34) (.tmp 41) 80 87 rfl _ 3 24 Try.underlying80 Try.info87 rfl (by decide) (by decide) w.heap.size (.slice (some ⟨g, 0, none⟩) M cv) M (its.flatMap itc) rfl (wr.drewN nq) _ (itc (It.mk x.n none none none none)) rfl (one_itc _) rfl HO.out.1 HO.out.2 wr.heap.size rfl rfl (by omega) (fun ge ce w' hv' hg => ?_); have HG := Lib.hid (ItG.push (e := It.mk x.n none none none none) (HA.out.bel (below_drewN (Below.refl _ _) nq)) ((Below.refl _ _).alloc (Nat.le_refl _) _) hv' (by rw [← HM.out]) hg); obtain ⟨cur, hrow⟩ := owns_row hv'; have f1 := hrow.frozen (M * 3 + 1); have f2 := hrow.frozen (M * 3 + 2); have HG1 := Lib.hid (show w'.ownsRow w.heap.size 87 3 (.slice (some ⟨ge, 0, none⟩) (its.length + 1) ce) (its.length + 1) ((its ++ [It.mk x.n none none none none]).flatMap itc) from by have q := HG.out.1; rw [List.length_append, List.length_singleton] at q; rw [HM.out] at *; exact q); have g1 : w'.cell? ⟨ge, M * 3 + 1, none⟩ = some (.pointer none) := (by have q := it_cell HG1.out 1 _ rfl; rw [HM.out] at *; exact q); have g2 : w'.cell? ⟨ge, M * 3 + 2, none⟩ = some (.pointer none) := (by have q := it_cell HG1.out 2 _ rfl; rw [HM.out] at *; exact q); have c5 := (CC.out w' HG.out.2).1; clear hv' hg hrow)))
            go_roundw
            case rel => exact ⟨k + 1, _, its ++ [It.mk x.n (some ⟨gl, ol + k * 3 + 2, none⟩) none (some x.r) none], HKN.out, by go_num, rfl, by
                have q := ItG.set (pre := its) (z := It.mk x.n none none none none) (z' := It.mk x.n (some ⟨gl, ol + k * 3 + 2, none⟩) none (some x.r) none) (by have q := HG.out; rw [HM.out] at q; exact q) 1 (by decide) (.pointer (some ⟨gl, ol + k * 3 + 2, none⟩)) rfl
                rw [← HM.out] at q; exact q, fun i hi => by
                rcases List.mem_append.1 hi with q | q
                · exact HOK.out i q
                · rw [List.mem_singleton.1 q]; exact ⟨HPT.out, .inl ⟨rfl, rfl⟩⟩, by rw [HT.out, ← HKEY.out]; exact (by have q := (stepI_new HCAT.out HZN.out); rw [q]; have hkx := HK2.out; simp [setK, keyI, hkx]), by have := HLE.out; simp; omega⟩
            case measure => have := HKN.out; simp [intOf] <;> omega
          · have hk2 : (x.k == 2) = false := beq_eq_false_iff_ne.2 hkk
            have HK2 := Lib.hid hkk
            clear hkk
            go_wp2_with fail
            go_quiet (fail)
            have HO := Lib.hid (show (wr.drewN nq).ownsRow w.heap.size 87 3 (.slice (some ⟨g, 0, none⟩) M cv) M (its.flatMap itc) ∧ w.heap.size ≤ (wr.drewN nq).heap.size from ⟨by have q := (HA.out.bel (below_drewN (Below.refl _ _) nq)).1; rw [← HM.out] at q; exact q, (HA.out.bel (below_drewN (Below.refl _ _) nq)).2.size⟩)
            have c1' : (wr.drewN nq).cell? ⟨gl, ol + k * 3 + 1, none⟩ = some (.int .i64 x.n) := (CC.out _ (HA.out.bel (below_drewN (Below.refl _ _) nq)).2).2
            go_wp2_with (first | ((with_reducible show wpList _ _ _ (Oper.mk _ (Op.call _) _ _ _ _ :: _) _ _); (refine wpList_pushK rfl (.tmp 34) (.tmp 41) 80 87 rfl _ 3 24 Try.underlying80 Try.info87 rfl (by decide) (by decide) w.heap.size (.slice (some ⟨g, 0, none⟩) M cv) M (its.flatMap itc) rfl (wr.drewN nq) _ (itc (It.mk x.n none none none none)) rfl (one_itc _) rfl HO.out.1 HO.out.2 wr.heap.size rfl rfl (by omega) (fun ge ce w' hv' hg => ?_); have HG := Lib.hid (ItG.push (e := It.mk x.n none none none none) (HA.out.bel (below_drewN (Below.refl _ _) nq)) ((Below.refl _ _).alloc (Nat.le_refl _) _) hv' (by rw [← HM.out]) hg); obtain ⟨cur, hrow⟩ := owns_row hv'; have f1 := hrow.frozen (M * 3 + 1); have f2 := hrow.frozen (M * 3 + 2); have HG1 := Lib.hid (show w'.ownsRow w.heap.size 87 3 (.slice (some ⟨ge, 0, none⟩) (its.length + 1) ce) (its.length + 1) ((its ++ [It.mk x.n none none none none]).flatMap itc) from by have q := HG.out.1; rw [List.length_append, List.length_singleton] at q; rw [HM.out] at *; exact q); have g1 : w'.cell? ⟨ge, M * 3 + 1, none⟩ = some (.pointer none) := (by have q := it_cell HG1.out 1 _ rfl; rw [HM.out] at *; exact q); have g2 : w'.cell? ⟨ge, M * 3 + 2, none⟩ = some (.pointer none) := (by have q := it_cell HG1.out 2 _ rfl; rw [HM.out] at *; exact q); have c5 := (CC.out w' HG.out.2).1; clear hv' hg hrow)))
            go_roundw
            case rel => exact ⟨k + 1, _, its ++ [It.mk x.n none (some ⟨gl, ol + k * 3 + 2, none⟩) none (some x.r)], HKN.out, by go_num, rfl, by
                have q := ItG.set (pre := its) (z := It.mk x.n none none none none) (z' := It.mk x.n none (some ⟨gl, ol + k * 3 + 2, none⟩) none (some x.r)) (by have q := HG.out; rw [HM.out] at q; exact q) 2 (by decide) (.pointer (some ⟨gl, ol + k * 3 + 2, none⟩)) rfl
                rw [← HM.out] at q; exact q, fun i hi => by
                rcases List.mem_append.1 hi with q | q
                · exact HOK.out i q
                · rw [List.mem_singleton.1 q]; exact ⟨.inl ⟨rfl, rfl⟩, HPT.out⟩, by rw [HT.out, ← HKEY.out]; exact (by have q := (stepI_new HCAT.out HZN.out); rw [q]; have hkx := HK2.out; simp [setK, keyI, hkx]), by have := HLE.out; simp; omega⟩
            case measure => have := HKN.out; simp [intOf] <;> omega
    · have ki : ¬ (k : Int) < (n : Int) := by omega
      have HAE := Lib.hid (show ItG w its VV wr ∧ (∀ i ∈ its, IOk w i) ∧ its.map keyI = itemsK E ∧ its.length ≤ n from ⟨hA, hok, by rw [hkey, List.take_of_length_le (by have := HN.out; omega)], by omega⟩)
      clear hA hok hkey
      go_wp2_with fail
      first | go_ret | ((try simp only [Exit.inBlock, Exit.then]); go_ret)
      first | exact ⟨its, HAE.out⟩ | exact ⟨_, rfl, its, HAE.out⟩ | exact ⟨_, its, rfl, HAE.out⟩
end Go.Proofs.Ytkonoojmhjinpaa
