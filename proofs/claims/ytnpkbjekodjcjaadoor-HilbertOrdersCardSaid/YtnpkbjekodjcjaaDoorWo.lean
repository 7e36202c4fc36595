/- The walk of law 8: orders. -/
import Derived.Test.YtnpkbjekodjcjaaDoorWa
import Derived.Test.YtnpkbjekodjcjaaDoorPq
import Derived.Test.YtnpkbjekodjcjaaDoorS0
set_option linter.all false
namespace Go.Proofs.YtnpkbjekodjcjaaDoor
open Go.RowKit Go.Fen Hil
set_option linter.unusedVariables false
set_option maxHeartbeats 4000000

def bcl (S : List Bool) : Array Value := (S.map fun b => Value.bool b).toArray
theorem get_bcl (S : List Bool) (i : Nat) (h : i < S.length) : (bcl S)[i]? = some (.bool (S.getD i false)) := by simp [bcl, List.getD, h]
theorem set_bcl (S : List Bool) (i : Nat) (b : Bool) : (bcl S).setIfInBounds i (.bool b) = bcl (S.set i b) := by simp [bcl, List.map_set]
theorem madeB (n : Nat) : madeCells #[Value.bool false] n = bcl (List.replicate n false) := by
  apply Array.ext
  · simp [madeCells, bcl]
  · intro i h1 h2
    simp [madeCells, bcl, Nat.mod_one]
theorem Tryd.info4 : (Tryd.prog.info? 4).map (fun i => (i.zero, i.size, i.bytes)) = some (some (.bool false), 1, 1) := by kernel_rfl
theorem make52 (n : Nat) (hn : n ≤ 1000000) (W : World) : (Instr.makeSlice 52 (.int .i64 (n : Int)) (.int .i64 (n : Int))).run Tryd.prog W = .ok (.slice (some ⟨W.heap.size, 0, none⟩) n n) (W.alloc (.cells (bcl (List.replicate n false)) 4)) := by
  have h := run_make_row' (P := Tryd.prog) 52 4 (.bool false) 1 Tryd.underlying52 Tryd.info4 rfl .i64 .i64 n (by omega) (by omega)
  rw [madeB] at h
  exact h W
theorem Tryd.z45 : (Tryd.prog.info? 45).bind (·.zero) = some (.agg #[.int .i64 0, .int .i64 0]) := by kernel_rfl
theorem Tryd.n45 : (Tryd.prog.info? 45).map (·.size) = some (#[Value.int .i64 0, .int .i64 0] : Array Value).size := by kernel_rfl
theorem one_two (a b : Int) : (#[Value.int .i64 a, .int .i64 b]).all (·.oneCell') = true := by simp [Value.oneCell']

/-- which numbers were met in the first i -/
def seenL (D : List Nat) (n i : Nat) : List Bool := (List.range n).map fun y => decide (y ∈ D.take i)
theorem seen_zero (D : List Nat) (n : Nat) : seenL D n 0 = List.replicate n false := by
  apply List.ext_getElem
  · simp [seenL]
  · intro i h1 h2; simp [seenL]
theorem seen_succ (D : List Nat) (n i : Nat) (hi : i < D.length) : (seenL D n i).set (at' D i) true = seenL D n (i + 1) := by
  have e : at' D i = D[i] := by simp [at', List.getD, hi]
  rw [e]
  apply List.ext_getElem
  · simp [seenL]
  · intro j h1 h2
    simp only [seenL, List.getElem_set, List.getElem_map, List.getElem_range]
    have key : j ∈ D.take (i + 1) ↔ j ∈ D.take i ∨ j = D[i] := by rw [List.take_succ, List.getElem?_eq_getElem hi]; simp only [Option.toList, List.mem_append, List.mem_singleton]
    by_cases c : D[i] = j
    · rw [if_pos c, eq_comm, decide_eq_true_eq, key]; exact .inr c.symm
    · rw [if_neg c]
      congr 1
      rw [key]
      apply propext
      constructor
      · exact fun h => .inl h
      · rintro (h | h)
        · exact h
        · exact absurd h.symm c
theorem seen_not {K D : List Nat} (hD : D.Pairwise (lt K)) (i : Nat) (hi : i < D.length) : at' D i ∉ D.take i := by
  have e : at' D i = D[i] := by simp [at', List.getD, hi]
  rw [e]
  intro h
  obtain ⟨j, hj, ej⟩ := List.mem_iff_getElem.1 h
  rw [List.getElem_take] at ej
  have hj' : j < i ∧ j < D.length := by simp at hj; omega
  have := List.pairwise_iff_getElem.1 hD j i hj'.2 hi hj'.1
  rw [ej] at this
  exact lt_irrefl this

set_option maxRecDepth 20000 in
theorem orders_walk (a : Option Addr) (R : List (List Int)) (nr cr : Nat) (o i0 i1 : Int) (w : World) (hT : Tab w) (er : nr = R.length) (hM : RawM0 w a R) (hR : ∀ l ∈ R, ∀ x ∈ l, B64 x) (ho : -128 ≤ o ∧ o < 128) (hi0 : -128 ≤ i0 ∧ i0 < 128) (hi1 : -128 ≤ i1 ∧ i1 < 128) :
    Calls Tryd.prog 8 #[.slice a nr cr, .int .i8 o, .agg #[.int .i8 i0, .int .i8 i1]] w fun e w' => e = .returned (.bool true) ∧ Below w.heap.size w w' := by
  obtain ⟨ob, hob⟩ : ∃ q : Nat, (q : Int) = o % 256 := ⟨(o % 256).toNat, by omega⟩
  obtain ⟨mo, hmo⟩ : ∃ m, m = ob % 16 := ⟨_, rfl⟩
  obtain ⟨k, hk⟩ : ∃ m, m = 1 + mo := ⟨_, rfl⟩
  have o1 : o % 256 = (ob : Int) := hob.symm
  have o2 : (ob : Int) % 16 = (mo : Int) := by omega
  have o3 : 1 + (mo : Int) = (k : Int) := by omega
  have k1 : 1 ≤ k := by omega
  have k2 : k ≤ 16 := by omega
  obtain ⟨n, hn⟩ : ∃ n, n = min nr 60 := ⟨_, rfl⟩
  have n60 : n ≤ 60 := by omega
  obtain ⟨L, hL⟩ : ∃ L, L = rowsOf R n := ⟨_, rfl⟩
  have lL : n = L.length := by rw [hL, length_rowsOf]
  have RB := Lib.hid (fun id => (by rw [hL]; exact rb64 R hR id n n : RB64 L id n))
  obtain ⟨g, eg⟩ : ∃ g, g = w.heap.size := ⟨_, rfl⟩
  obtain ⟨A0, hA0⟩ : ∃ W, W = w.alloc (.cells #[.int .i8 i0, .int .i8 i1] 42) := ⟨_, rfl⟩
  have b0 : Below w.heap.size w A0 := by rw [hA0]; exact (Below.refl _ _).alloc (Nat.le_refl _) _
  have r0 : Row A0 g 42 #[.int .i8 i0, .int .i8 i1] := by rw [hA0]; exact Row.new' 42 _ eg
  have RA := Lib.hid (fun W (h : Below w.heap.size w W) => (by
    have := rows_any0 a R nr cr 60 W er (by decide) (hM.below h (Nat.le_refl _))
    rw [← hn, ← hL] at this
    exact this : Calls Tryd.prog 17 #[.slice a nr cr, .int .i64 (60 : Nat)] W fun e w' => ∃ a' c', e = .returned (.slice a' n c') ∧ RowsM w' a' L ∧ Below W.heap.size W w'))
  have ez : w.heap.size = g := eg.symm
  have HA0 := Lib.hid hA0
  have EG := Lib.hid eg
  have HB0 := Lib.hid b0
  have HR0 := Lib.hid r0
  have HT := Lib.hid hT
  have LL := Lib.hid lL
  clear hob hmo hk hn hL lL eg hA0 b0 r0 hT hM er hR
  go_enter Tryd.func8, Tryd.ntmps8
  go_wp2_with (first | ((with_reducible show wpList _ _ _ (Oper.mk _ (Op.box _ _) _ _ _ _ :: _) _ _); (refine wpList_box_row rfl 42 (.tmp 2) rfl _ rfl g EG.out ?_; refine wpList_atE HA0.out ?_)))
  refine (sanity_any _ (HT.out.below HB0.out (Nat.le_refl _))).mono ?_
  rintro e V1 ⟨rfl, b'⟩
  have HV1 := Lib.hid (bel_tr HB0.out b')
  have R1 := HR0.out.below b' HR0.out.lt
  have HR1 := Lib.hid R1
  clear b' R1
  go_wp2_with fail
  refine (RA.out _ HV1.out).mono ?_
  rintro e V2 ⟨a', c', rfl, M2, b2⟩
  have HV2 := Lib.hid (bel_tr HV1.out b2)
  have R2 := HR1.out.below b2 HR1.out.lt
  have p0 := R2.cell 0
  have p1 := R2.cell 1
  simp only [List.getElem?_toArray, List.getElem?_cons_zero, List.getElem?_cons_succ] at p0 p1
  obtain ⟨Lo, er, lo60, C18, C19⟩ := order_pair a' L n c' i0 i1 o V2 (HT.out.below HV2.out (Nat.le_refl _)) LL.out n60 M2 (RB.out i0) (RB.out i1)
  obtain ⟨D, d1, d2, d3, Q18, _⟩ := order_q a' L n c' k 1 2 V2 (HT.out.below HV2.out (Nat.le_refl _)) LL.out n60 M2 k1 k2 (RB.out 1) (RB.out 2)
  have KE := Lib.hid (fun W (h : Below V2.heap.size V2 W) => rkeys_any a' L n c' k 1 2 W LL.out (by omega) (M2.below h (Nat.le_refl _)) k1 k2 (RB.out 1) (RB.out 2))
  obtain ⟨f, hf⟩ : ∃ f, f = keyR L 1 2 k n := ⟨_, rfl⟩
  rw [← hf] at d3
  have KE1 := KE.out
  rw [← hf] at KE1
  have HKE := Lib.hid KE1
  have H18 := Lib.hid C18
  have H19 := Lib.hid C19
  have HQ := Lib.hid Q18
  have D1 := Lib.hid d1
  have D2 := Lib.hid d2
  have D3 := Lib.hid d3
  have L60 := Lib.hid lo60
  obtain ⟨g9, hg9⟩ : ∃ x, x = V2.heap.size := ⟨_, rfl⟩
  obtain ⟨V3, hV3⟩ : ∃ W, W = V2.alloc (.cells #[.int .i64 i0, .int .i64 i1] 45) := ⟨_, rfl⟩
  have b3 : Below V2.heap.size V2 V3 := by rw [hV3]; exact (Below.refl _ _).alloc (Nat.le_refl _) _
  have HB3 := Lib.hid b3
  have HR3 : Hid (Row V3 g9 45 #[.int .i64 i0, .int .i64 i1]) := Lib.hid (by rw [hV3]; exact Row.new' 45 _ hg9)
  have HG9 := Lib.hid hg9
  have HV3 := Lib.hid hV3
  clear KE KE1 C18 C19 Q18 d1 d2 d3 lo60 hf b2 R2 M2 hg9 hV3 b3
  go_wp2_with (first | ((with_reducible show wpList _ _ _ (Oper.mk _ (Op.alloc _) _ _ _ _ :: _) _ _); (refine wpList_new_row rfl rfl 45 9 (.tmp 29) rfl rfl rfl rfl g9 HG9.out #[.int .i64 i0, .int .i64 i1] rfl rfl _ Tryd.z45 Tryd.n45 rfl (one_two _ _) ?_; refine wpList_atE HV3.out ?_; clear p0 p1)) | ((with_reducible show wpList _ _ _ (Oper.mk _ (Op.load _ _) _ _ _ _ :: _) _ _); refine wpList_load_arr rfl 45 (.tmp 9) rfl g9 45 #[.int .i64 i0, .int .i64 i1] Tryd.underlying45 Tryd.n45 rfl HR3.out ?_))
  refine (H18.out _ HB3.out).mono ?_
  rintro e V4 ⟨go1, co1, rfl, M4, b4⟩
  have HB4 := Lib.hid (bel_tr HB3.out b4)
  have HR4 := Lib.hid (HR3.out.below b4 HR3.out.lt)
  have HM4 := Lib.hid M4
  clear b4 M4
  go_wp2_with (first | ((with_reducible show wpList _ _ _ (Oper.mk _ (Op.load _ _) _ _ _ _ :: _) _ _); refine wpList_load_arr rfl 45 (.tmp 9) rfl g9 45 #[.int .i64 i0, .int .i64 i1] Tryd.underlying45 Tryd.n45 rfl HR4.out ?_))
  refine (H19.out _ HB4.out).mono ?_
  rintro e V5 ⟨go2, co2, rfl, M5, b5⟩
  have HB5 := Lib.hid (bel_tr HB4.out b5)
  have HM45 := Lib.hid (HM4.out.below b5 (Nat.le_refl _))
  have HM5 := Lib.hid M5
  clear b5 M5
  go_wp2_with fail
  refine (HQ.out _ HB5.out).mono ?_
  rintro e V6 ⟨gq, cq, rfl, hgq, hcq, b6⟩
  have HB6 := Lib.hid (bel_tr HB5.out b6)
  have HM46 := Lib.hid (HM45.out.below b6 (Nat.le_refl _))
  have HM56 := Lib.hid (HM5.out.below b6 (Nat.le_refl _))
  have HGQ := Lib.hid hgq
  have HCQ := Lib.hid hcq
  clear b6 hgq hcq
  go_wp2_with fail
  refine (sameInts_any go1 go2 Lo Lo _ _ co1 co2 V6 rfl rfl (by have := L60.out; omega) HM46.out HM56.out).mono ?_
  rintro e V7 ⟨rfl, q7, rfl⟩
  have dd : decide (Lo = Lo) = true := decide_eq_true rfl
  go_wp2_with fail
  refine (HKE.out _ (below_drewN HB6.out q7)).mono ?_
  rintro e V8 ⟨ak, ck, rfl, M8, b8⟩
  have HB8 := Lib.hid ((below_drewN (Below.refl V6.heap.size V6) q7).trans b8)
  have HM8 := Lib.hid M8
  obtain ⟨gs, hgs⟩ : ∃ x, x = V8.heap.size := ⟨_, rfl⟩
  obtain ⟨V9, hV9⟩ : ∃ W, W = V8.alloc (.cells (bcl (List.replicate n false)) 4) := ⟨_, rfl⟩
  have M52 := make52 n (by omega)
  have HB9 := Lib.hid (show Below gs V8 V9 by rw [hV9]; exact (Below.refl _ _).alloc (Nat.le_of_eq hgs) _)
  have HR9 : Hid (Row V9 gs 4 (bcl (seenL D n 0))) := Lib.hid (by rw [hV9, seen_zero]; exact Row.new' 4 _ hgs)
  have HV9 := Lib.hid hV9
  have HGS := Lib.hid hgs
  have ez8 : V8.heap.size = gs := hgs.symm
  clear b8 M8 hgs hV9
  go_wp2_with (first | ((with_reducible (refine wpList_atE HV9.out ?_))))
  rw [← HV9.out]
  go_loopw [19] (fun iv wr => ∃ i : Nat, i ≤ n ∧ iv = .int .i64 i ∧ Row wr gs 4 (bcl (seenL D n i)) ∧ Below gs V8 wr) (fun iv _ => n - (intOf iv).toNat)
  case atStart => exact ⟨0, Nat.zero_le _, rfl, HR9.out, HB9.out⟩
  case round =>
    obtain ⟨i, hi, rfl, hRr, hBr⟩ := hrel
    have HRr := Lib.hid hRr
    have HBr := Lib.hid hBr
    by_cases hlt : i < n
    · have ii : (i : Int) < (n : Int) := by omega
      have HI := Lib.hid hlt
      have gqs : gq < gs := by have := HGQ.out; have := HB8.out.size; rw [HGS.out]; omega
      have CQ := Lib.hid (fun j (hj : j < n) => (show wr.cell? ⟨gq, j, none⟩ = some (.int .i64 (at' D j)) by rw [hBr.cell (p := ⟨gq, j, none⟩) gqs, HB8.out.cell (p := ⟨gq, j, none⟩) HGQ.out]; exact HCQ.out j hj))
      obtain ⟨gk, ok, rfl, hgk, hck⟩ : ∃ g o, ak = some ⟨g, o, none⟩ ∧ g < V8.heap.size ∧ ∀ i, i < n → V8.cell? ⟨g, o + i, none⟩ = some (.int .u64 (f i)) := by
        rcases HM8.out with ⟨_, h⟩ | h
        · omega
        · exact h
      have CK := Lib.hid (fun j (hj : j < n) => (show wr.cell? ⟨gk, ok + j, none⟩ = some (.int .u64 (f j)) by rw [hBr.cell (p := ⟨gk, ok + j, none⟩) (by show gk < gs; omega)]; exact hck j hj))
      have LT : ∀ j, j < n → at' D j < n := fun j hj => (D2.out _).1 (by
        have hl : j < D.length := by rw [D1.out]; exact hj
        have : at' D j = D[j] := by simp [at', List.getD, hl]
        rw [this]; exact List.getElem_mem hl)
      have KG : ∀ j, j < n → ((List.range n).map f).getD j 0 = f j := fun j hj => by simp [List.getD, hj]
      obtain ⟨yi, hyi⟩ : ∃ y, y = at' D i := ⟨_, rfl⟩
      have yn : yi < n := by rw [hyi]; exact LT i hlt
      have cq := CQ.out i hlt
      have cs := (hRr.cell yi).trans (get_bcl _ yi (by simp [seenL]; exact yn))
      have e0 : (seenL D n i).getD yi false = false := by
        have hm := seen_not D3.out i (by rw [D1.out]; exact hlt)
        rw [← hyi] at hm
        simp [seenL, List.getD, yn, hm]
      rw [e0] at cs
      rw [← hyi] at cq
      have ck1 := CK.out yi yn
      obtain ⟨kb, hkb⟩ : ∃ x, x = f yi := ⟨_, rfl⟩
      rw [← hkb] at ck1
      have yni : (yi : Int) < (n : Int) := by omega
      have yn0 : ¬ (n : Int) ≤ (yi : Int) := by omega
      have yn1 : decide (n ≤ yi) = false := decide_eq_false (by omega)
      have yz : decide ((yi : Int) < 0) = false := decide_eq_false (by omega)
      have fs := hRr.frozen yi
      have i6 : i ≤ 1000000 := by omega
      have y6 : yi ≤ 1000000 := by omega
      have HYI := Lib.hid hyi
      clear hRr hBr hck hi hgk gqs e0
      by_cases h0 : i = 0
      · subst h0
        have d3a := 0
        clear LT KG hyi hkb
        clear hlt d3a
        go_wp2_with fail
        go_quiet (fail)
        go_wp2_with fail
        go_roundw
        case rel =>
          refine ⟨0 + 1, HI.out, by go_num, ?_, ?_⟩
          · have := (HRr.out.drewN nq).set yi (.bool true)
            rw [set_bcl, HYI.out, seen_succ D n 0 (by rw [D1.out]; exact HI.out)] at this
            rw [HYI.out]
            exact this
          · exact (below_drewN HBr.out nq).setCell (p := ⟨gs, yi, none⟩) (Nat.le_refl _) _
        case measure => have := HI.out; simp [intOf] <;> omega
      · obtain ⟨im, him⟩ : ∃ p, p = i - 1 := ⟨_, rfl⟩
        have eim : (i : Int) - 1 = (im : Int) := by omega
        have iml : (im : Int) < (n : Int) := by omega
        have im6 : im ≤ 1000000 := by omega
        have wim : IntKind.i64.wrap (im : Int) = (im : Int) := wrap_i64 _ (by omega) (by omega)
        have ip : (0 : Int) < (i : Int) := by omega
        have ip2 : decide (0 < i) = true := decide_eq_true (by omega)
        obtain ⟨ym, hym⟩ : ∃ y, y = at' D im := ⟨_, rfl⟩
        have ymn : ym < n := by rw [hym]; exact LT im (by omega)
        have ymi : (ym : Int) < (n : Int) := by omega
        have ym6 : ym ≤ 1000000 := by omega
        have cm := CQ.out im (by omega)
        rw [← hym] at cm
        have ck2 := CK.out ym ymn
        obtain ⟨ka, hka⟩ : ∃ x, x = f ym := ⟨_, rfl⟩
        rw [← hka] at ck2
        have d3a : ka < kb ∨ ka = kb ∧ ym < yi := by
          have hp := List.pairwise_iff_getElem.1 D3.out im i (by rw [D1.out]; omega) (by rw [D1.out]; exact hlt) (by omega)
          have a1 : D[im]'(by rw [D1.out]; omega) = ym := by rw [hym]; simp [at', List.getD, show im < D.length by rw [D1.out]; omega]
          have a2 : D[i]'(by rw [D1.out]; exact hlt) = yi := by rw [hyi]; simp [at', List.getD, show i < D.length by rw [D1.out]; exact hlt]
          rw [a1, a2] at hp
          unfold lt at hp
          rw [KG ym ymn, KG yi yn, ← hka, ← hkb] at hp
          exact hp
        clear LT KG hyi hkb hym hka him h0
        by_cases hkk : ka < kb
        · have w1 : ¬ (kb : Int) < (ka : Int) := by omega
          have w2 : decide (kb < ka) = false := decide_eq_false (by omega)
          have w3 : ((ka : Int) == (kb : Int)) = false := beq_eq_false_iff_ne.2 (by omega)
          have w4 : (ka == kb) = false := beq_eq_false_iff_ne.2 (by omega)
          clear hkk
          clear hlt d3a
          go_wp2_with fail
          go_quiet (fail)
          go_wp2_with fail
          go_roundw
          case rel =>
            refine ⟨i + 1, HI.out, by go_num, ?_, ?_⟩
            · have := (HRr.out.drewN nq).set yi (.bool true)
              rw [set_bcl, HYI.out, seen_succ D n i (by rw [D1.out]; exact HI.out)] at this
              rw [HYI.out]
              exact this
            · exact (below_drewN HBr.out nq).setCell (p := ⟨gs, yi, none⟩) (Nat.le_refl _) _
          case measure => have := HI.out; simp [intOf] <;> omega
        · have e1 : ka = kb := by omega
          have e2 : ym < yi := by omega
          subst e1
          have w1 : ¬ (yi : Int) < (ym : Int) := by omega
          have w2 : decide (yi < ym) = false := decide_eq_false (by omega)
          clear hkk e2
          clear hlt d3a
          go_wp2_with fail
          go_quiet (fail)
          go_wp2_with fail
          go_roundw
          case rel =>
            refine ⟨i + 1, HI.out, by go_num, ?_, ?_⟩
            · have := (HRr.out.drewN nq).set yi (.bool true)
              rw [set_bcl, HYI.out, seen_succ D n i (by rw [D1.out]; exact HI.out)] at this
              rw [HYI.out]
              exact this
            · exact (below_drewN HBr.out nq).setCell (p := ⟨gs, yi, none⟩) (Nat.le_refl _) _
          case measure => have := HI.out; simp [intOf] <;> omega
    · obtain rfl : i = n := by omega
      have ii : ¬ (i : Int) < (i : Int) := by omega
      clear hRr hBr hlt hi HRr
      go_wp2_with fail
      go_ret
      refine ⟨rfl, ?_⟩
      have h1 := HBr.out
      rw [HGS.out] at h1
      have h2 := bel_tr HV2.out (bel_tr HB6.out (bel_tr HB8.out h1))
      first | exact h2 | (rw [ez] at h2; exact h2)
end Go.Proofs.YtnpkbjekodjcjaaDoor
