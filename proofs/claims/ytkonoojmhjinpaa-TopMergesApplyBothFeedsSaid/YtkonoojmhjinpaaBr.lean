/- Contracts: Branch. -/
import Derived.Test.YtkonoojmhjinpaaTa
import Derived.Test.YtkonoojmhjinpaaMg
set_option linter.all false
namespace Go.Proofs.Ytkonoojmhjinpaa
open Go.RowKit Go.Fen
set_option linter.unusedVariables false
set_option maxHeartbeats 8000000

theorem Try.n26 : (Try.prog.info? 26).map (·.size) = some 4 := by kernel_rfl
theorem AccG.setOther {V0 w : World} {gv : Nat} {t e : TypeId} {mk : Value → Array Value} {k n : Nat} {v : Value} {xs : List Value} (h : AccG V0 gv t mk e k v n xs w) {g : Nat} (hg : V0.heap.size ≤ g) (hgv : gv < V0.heap.size) (hne : v.ownBlock ≠ some g) (i : Nat) (z : Value) : AccG V0 gv t mk e k v n xs (w.setCell ⟨g, i, none⟩ z) := by
  refine ⟨ownsRow_setCell_other h.1 (a := ⟨g, i, none⟩) hne _, (Below.heap_setCell _ ⟨g, i, none⟩ _ _ (show gv ≠ g by omega)).trans h.2.1, ⟨h.2.2.os, h.2.2.tape, h.2.2.output, ?_, fun j hj hn => (Below.heap_setCell _ ⟨g, i, none⟩ _ _ (show j ≠ g by omega)).trans (h.2.2.block j hj hn)⟩⟩
  have := h.2.2.size; simp [World.setCell]; exact this
theorem sub_rising {N : Int} {L O : List Ln} (hR : Rising N L) (hs : (O.map (·.n)).Sublist (L.map (·.n))) : Rising N O := by
  refine ⟨fun l hl => ?_, ?_⟩
  · obtain ⟨l0, h0, e⟩ := List.mem_map.1 (hs.subset (List.mem_map_of_mem hl))
    have := hR.1 l0 h0
    omega
  · have h1 : (L.map (·.n)).Pairwise (· < ·) := List.pairwise_map.2 hR.2
    exact List.pairwise_map.1 (h1.sublist hs)
/-- a branch of a base is returned -/
def RetBr (N : Int) (L : List Ln) (e : Ending) (w : World) : Prop := ∃ v N' L', e = .returned v ∧ Tb w v N' L' ∧ Rising N' L' ∧ N ≤ N' ∧ N' ≤ N + 8 ∧ L'.length ≤ L.length + 6 ∧ ∀ l ∈ L', l.n < N → ∃ l0 ∈ L, l0.n = l.n
set_option maxRecDepth 20000 in
theorem branch_any (m : Nat) (vs vb : Value) (N : Int) (L : List Ln) (gone chg : Int) (a2 : Option Addr) (V : List Rr) (n2 c2 sk : Nat) (w : World) (hm : m ≤ 1000) (hS : Sch m w vs) (hT : Tb w vb N L) (hR : Rising N L) (h0 : 0 ≤ N) (h1 : N ≤ 100000) (hL : L.length ≤ 1000) (hn2 : n2 = V.length) (h26 : n2 ≤ 9223372036854775807) (hV : Raw w a2 V) (hg0 : 0 ≤ gone ∧ gone < 4294967296) (hc0 : 0 ≤ chg ∧ chg < 4294967296) (hsk : sk < 256) :
    Calls Try.prog 8 #[vs, vb, .agg #[.int .u32 gone, .int .u32 chg, .slice a2 n2 c2, .int .u8 sk]] w fun e w' => RetBr N L e w' ∧ Below w.heap.size w w' := by
  have HROWS := Lib.hid (fun X (h : Below w.heap.size w X) => rows_any m vs a2 V n2 c2 6 X hm (hS.bel h) hn2 h26 (by omega) ⟨hV.1.bel h, fun r hr => ⟨(hV.2 r hr).1.bel h, (hV.2 r hr).2⟩⟩)
  obtain ⟨aS, F, cs, nx, rfl, _, _⟩ := hS
  obtain ⟨a1, c1, rfl, hcap, hLs⟩ := hT
  obtain ⟨ns, hns⟩ : ∃ n, n = F.length := ⟨_, rfl⟩
  obtain ⟨n1, hn1⟩ : ∃ n, n = L.length := ⟨_, rfl⟩
  rw [← hns] at HROWS ⊢
  rw [← hn1] at hL ⊢
  obtain ⟨g, eg⟩ : ∃ g, g = w.heap.size := ⟨_, rfl⟩
  obtain ⟨W0, hW0⟩ : ∃ W, W = w.alloc (.cells #[.slice aS ns cs, .int .i64 nx] 31) := ⟨_, rfl⟩
  obtain ⟨W1, hW1⟩ : ∃ W, W = W0.alloc (.cells #[.int .i64 N, .slice a1 n1 c1] 38) := ⟨_, rfl⟩
  obtain ⟨W2, hW2⟩ : ∃ W, W = W1.alloc (.cells #[.int .u32 gone, .int .u32 chg, .slice a2 n2 c2, .int .u8 sk] 26) := ⟨_, rfl⟩
  obtain ⟨W3, hW3⟩ : ∃ W, W = W2.alloc (.cells #[.int .i64 0, .slice none 0 0] 38) := ⟨_, rfl⟩
  obtain ⟨W4, hW4⟩ : ∃ W, W = W3.alloc (.cells #[.int .i64 0, .slice none 0 0] 38) := ⟨_, rfl⟩
  have z0 : W0.heap.size = g + 1 := by rw [hW0, eg]; simp
  have z1 : W1.heap.size = g + 1 + 1 := by rw [hW1, World.size_alloc, z0]
  have z2 : W2.heap.size = g + 1 + 1 + 1 := by rw [hW2, World.size_alloc, z1]
  have z3 : W3.heap.size = g + 1 + 1 + 1 + 1 := by rw [hW3, World.size_alloc, z2]
  have b0 : Below w.heap.size w W4 := by rw [hW4, hW3, hW2, hW1, hW0]; exact (((((Below.refl _ _).alloc (Nat.le_refl _) _).alloc (by simp) _).alloc (by simp <;> omega) _).alloc (by simp <;> omega) _).alloc (by simp <;> omega) _
  have R0 : Row W4 g 31 #[.slice aS ns cs, .int .i64 nx] := by rw [hW4, hW3, hW2, hW1, hW0, eg]; exact ((((Row.new w 31 _).alloc _).alloc _).alloc _).alloc _
  have R1 : Row W4 (g + 1) 38 #[.int .i64 N, .slice a1 n1 c1] := by rw [hW4, hW3, hW2, hW1]; exact (((Row.new' 38 _ z0.symm).alloc _).alloc _).alloc _
  have R2 : Row W4 (g + 1 + 1) 26 #[.int .u32 gone, .int .u32 chg, .slice a2 n2 c2, .int .u8 sk] := by rw [hW4, hW3, hW2]; exact ((Row.new' 26 _ z1.symm).alloc _).alloc _
  have R3 : Row W4 (g + 1 + 1 + 1) 38 #[.int .i64 0, .slice none 0 0] := by rw [hW4, hW3]; exact (Row.new' 38 _ z2.symm).alloc _
  have R4 : Row W4 (g + 1 + 1 + 1 + 1) 38 #[.int .i64 0, .slice none 0 0] := by rw [hW4]; exact Row.new' 38 _ z3.symm
  have k02 : W4.cell? ⟨g + 1 + 1, 2, none⟩ = some (.slice a2 n2 c2) := R2.cell 2
  have k00 : W4.cell? ⟨g, 0, none⟩ = some (.slice aS ns cs) := R0.cell 0
  have k01 : W4.cell? ⟨g, 1, none⟩ = some (.int .i64 nx) := R0.cell 1
  have HC := Lib.hid (HROWS.out W4 b0)
  have HR := Lib.hid (show Row W4 (g + 1) 38 #[.int .i64 N, .slice a1 n1 c1] ∧ Row W4 (g + 1 + 1) 26 #[.int .u32 gone, .int .u32 chg, .slice a2 n2 c2, .int .u8 sk] ∧ Row W4 (g + 1 + 1 + 1) 38 #[.int .i64 0, .slice none 0 0] ∧ Row W4 (g + 1 + 1 + 1 + 1) 38 #[.int .i64 0, .slice none 0 0] from ⟨R1, R2, R3, R4⟩)
  have HLs := Lib.hid (hLs.bel b0)
  have HW0 := Lib.hid hW0
  have HW1 := Lib.hid hW1
  have HW2 := Lib.hid hW2
  have HW3 := Lib.hid hW3
  have HW4 := Lib.hid hW4
  have EG := Lib.hid eg
  have Z0 := Lib.hid z0
  have Z1 := Lib.hid z1
  have Z2 := Lib.hid z2
  have Z3 := Lib.hid z3
  have HB := Lib.hid b0
  have HN1 := Lib.hid hn1
  have HRI := Lib.hid hR
  clear hW0 hW1 hW2 hW3 hW4 eg z0 z1 z2 z3 b0 R0 R1 R2 R3 R4 hLs hns hn1 hcap hR hn2 hV
  go_enter Try.func8, Try.ntmps8
  go_wp2_with (first | ((with_reducible show wpList _ _ _ (Oper.mk _ (Op.box _ _) _ _ _ _ :: _) _ _); (first | (refine wpList_box_row rfl 31 (.tmp 0) rfl _ rfl g EG.out ?_; refine wpList_atE HW0.out ?_) | (refine wpList_box_row rfl 38 (.tmp 1) rfl _ rfl (g + 1) Z0.out.symm ?_; refine wpList_atE HW1.out ?_) | (refine wpList_box_row rfl 26 (.tmp 2) rfl _ rfl (g + 1 + 1) Z1.out.symm ?_; refine wpList_atE HW2.out ?_))) | ((with_reducible show wpList _ _ _ (Oper.mk _ (Op.alloc _) _ _ _ _ :: _) _ _); (first | (refine wpList_new_row rfl rfl 38 7 (.tmp 12) rfl rfl rfl rfl (g + 1 + 1 + 1 + 1) Z3.out.symm #[.int .i64 0, .slice none 0 0] rfl rfl _ Try.z38 Try.n38 rfl (by simp [Value.oneCell']) ?_; refine wpList_atE HW4.out ?_) | (refine wpList_alloc_row rfl 38 rfl #[.int .i64 0, .slice none 0 0] Try.z38 (g + 1 + 1 + 1) Z2.out.symm ?_; refine wpList_atE HW3.out ?_))))
  refine HC.out.mono ?_
  rintro e V0 ⟨⟨ar, RS, cr, rfl, hRn, hRS⟩, b2⟩
  obtain ⟨nr, hnr⟩ : ∃ n, n = RS.length := ⟨_, rfl⟩
  rw [← hnr] at hRn ⊢
  obtain ⟨gv, hgv⟩ : ∃ x, x = g + 1 + 1 + 1 + 1 := ⟨_, rfl⟩
  have HV := Lib.hid (show Row V0 (g + 1) 38 #[.int .i64 N, .slice a1 n1 c1] ∧ Row V0 (g + 1 + 1) 26 #[.int .u32 gone, .int .u32 chg, .slice a2 n2 c2, .int .u8 sk] ∧ Row V0 (g + 1 + 1 + 1) 38 #[.int .i64 0, .slice none 0 0] ∧ Row V0 gv 38 #[.int .i64 0, .slice none 0 0] from ⟨HR.out.1.below b2 HR.out.1.lt, HR.out.2.1.below b2 HR.out.2.1.lt, HR.out.2.2.1.below b2 HR.out.2.2.1.lt, by rw [hgv]; exact HR.out.2.2.2.below b2 HR.out.2.2.2.lt⟩)
  have HA0 := Lib.hid (show AccG V0 gv 38 (mkT 0) 45 2 (.slice none 0 0) 0 (([] : List Ln).flatMap lnc) V0 from ⟨World.ownsRow_nil _ _ _ _, HV.out.2.2.2, grown_refl _ _⟩)
  have HRS := Lib.hid hRS
  have HLV := Lib.hid (HLs.out.bel b2)
  have HBV := Lib.hid (bel_tr HB.out b2)
  have HGV := Lib.hid hgv
  have HNR := Lib.hid hnr
  rw [← hgv]
  clear b2 hRS hnr hgv k00 k01 k02
  have j11 : V0.cell? ⟨g + 1, 1, none⟩ = some (.slice a1 n1 c1) := HV.out.1.cell 1
  go_wp2_with fail
  clear j11
  go_loopw [9] (fun iv wr => ∃ (k : Nat) (u : Value) (O : List Ln), k ≤ n1 ∧ iv = .int .i64 k ∧ (O.map (·.n)).Sublist ((L.take k).map (·.n)) ∧ AccG V0 gv 38 (mkT 0) 45 2 u O.length (O.flatMap lnc) wr ∧ ∀ l ∈ O, Rok V0 l.r) (fun iv _ => n1 - (intOf iv).toNat)
  case atStart => exact ⟨0, _, [], by omega, rfl, by simp, HA0.out, by simp⟩
  case round =>
    obtain ⟨k, u, O, hk, rfl, hsub, hA, hok⟩ := hrel
    have HA := Lib.hid hA
    have HOK := Lib.hid hok
    have HSUB := Lib.hid hsub
    have BA := hA.bel (B := gv) (Nat.le_refl _) (Nat.le_of_lt HV.out.2.2.2.lt)
    have j11 : wr.cell? ⟨g + 1, 1, none⟩ = some (.slice a1 n1 c1) := (HV.out.1.below BA (by have := HGV.out; omega)).cell 1
    by_cases hkn : k < n1
    · have ki : (k : Int) < (n1 : Int) := by omega
      have HLW := HA.out.lns HV.out.2.2.2 (by decide) (by decide) HLV.out
      obtain ⟨gl, ol, rfl, hgl, hc⟩ := HLW.1.form (by rw [← HN1.out]; omega)
      obtain ⟨l, hl⟩ : ∃ f, L[k]? = some f := ⟨_, List.getElem?_eq_getElem (by rw [← HN1.out]; omega)⟩
      have c0 : wr.cell? ⟨gl, ol + k * 2, none⟩ = some (.int .i64 l.n) := by have := hc k l hl 0 _ rfl; rw [Nat.add_zero] at this; exact this
      have c1' : wr.cell? ⟨gl, ol + k * 2 + 1, none⟩ = some (rvv l.r) := hc k l hl 1 _ rfl
      obtain ⟨gx, hgx⟩ : ∃ z, z = wr.heap.size := ⟨_, rfl⟩
      obtain ⟨W5, hW5⟩ : ∃ W, W = wr.alloc (.cells #[.int .i64 l.n, rvv l.r] 45) := ⟨_, rfl⟩
      have b5 : Below wr.heap.size wr W5 := by rw [hW5]; exact (Below.refl _ _).alloc (Nat.le_refl _) _
      have R5 : Row W5 gx 45 #[.int .i64 l.n, rvv l.r] := by rw [hW5]; exact Row.new' 45 _ hgx
      have HA5 := Lib.hid (hA.call b5)
      have BA5 := HA5.out.bel (B := gv) (Nat.le_refl _) (Nat.le_of_lt HV.out.2.2.2.lt)
      have s1 : W5.cell? ⟨g + 1 + 1, 1, none⟩ = some (.int .u32 chg) := (HV.out.2.1.below BA5 (by have := HGV.out; omega)).cell 1
      have s0 : W5.cell? ⟨g + 1 + 1, 0, none⟩ = some (.int .u32 gone) := (HV.out.2.1.below BA5 (by have := HGV.out; omega)).cell 0
      have HX := Lib.hid hgx
      have HW5 := Lib.hid hW5
      have HR5 := Lib.hid R5
      have HKN := Lib.hid hkn
      have HLK := Lib.hid hl
      have HLROK := Lib.hid (HLV.out.2 l (List.mem_of_getElem? hl))
      have hk1000 : k ≤ 1000 := by omega
      clear hgx hW5 b5 R5 hl hc hgl hA hok hsub hkn hk BA BA5 HLW
      go_upto_region 7 with (first | ((with_reducible show wpList _ _ _ (Oper.mk _ (Op.alloc _) _ _ _ _ :: _) _ _); (refine wpList_new_row rfl rfl 45 10 (.tmp 28) rfl rfl rfl rfl gx HX.out #[.int .i64 l.n, rvv l.r] rfl rfl _ Try.z45 Try.n45 rfl (by simp [Value.oneCell', rvv]) ?_; refine wpList_atE HW5.out ?_)))
      try simp only [Act.put, List.setIfInBounds_toArray, List.set_cons_zero, List.set_cons_succ]
      go_cut [40] from 29 to 40 (fun s40 wx => ∃ b : Bool, s40 = .bool b ∧ W5 = wx ∧ (b = true → 0 < nr))
      case first =>
        rcases Nat.eq_zero_or_pos nr with hnr0 | hnr0
        · subst hnr0
          go_wp2_with fail
          all_goals first | exact (undef_no (by assumption)).elim | (go_meet; exact ⟨_, rfl, rfl, fun h => by simp at h⟩)
        · go_wp2_with fail
          all_goals first | exact (undef_no (by assumption)).elim | (go_meet; exact ⟨_, rfl, rfl, fun _ => hnr0⟩)
      obtain ⟨b, rfl, rfl, hb⟩ := hcut
      have HOL := Lib.hid (show O.length ≤ 1000 from by have q := HSUB.out.length_le; simp at q; omega)
      clear s1
      cases b with
      | true =>
        have hnp := hb rfl
        obtain ⟨gr, or, rfl, hgr, hcr⟩ := HRS.out.1.form (by rw [← HNR.out]; exact hnp)
        obtain ⟨q, hq⟩ : ∃ q : Nat, (k : Int) % (nr : Int) = (q : Int) := ⟨k % nr, by simp⟩
        have hqn : q < nr := by
          have e : (q : Int) < nr := by rw [← hq]; exact Int.emod_lt_of_pos _ (by omega)
          omega
        have hqi : (q : Int) < (nr : Int) := by omega
        have nz : ¬ (nr : Int) = 0 := by omega
        have nz' : ((nr : Int) == 0) = false := beq_eq_false_iff_ne.2 nz
        obtain ⟨r, hr⟩ : ∃ f, RS[q]? = some f := ⟨_, List.getElem?_eq_getElem (by rw [← HNR.out]; omega)⟩
        have HROK := Lib.hid (HRS.out.2 r (List.mem_of_getElem? hr))
        have cr0 : W5.cell? ⟨gr, or + q, none⟩ = some (rvv r) := by
          have h1 := (Lt.but (g := gv) (t := 38) (z := mkT 0 (.slice none 0 0)) HRS.out.1 HV.out.2.2.2 (by decide) HA5.out.2.2.size (fun q hq hne => HA5.out.2.2.block q hq (by intro e; exact hne (Option.some.inj e))))
          obtain ⟨g', o', e', _, hc'⟩ := h1.form (by rw [← HNR.out]; omega)
          injection e' with e'
          injection e' with e1 e2
          subst e1 e2
          have := hc' q r hr 0 _ rfl
          rw [Nat.mul_one] at this
          exact this
        obtain ⟨ra, rn, rc, ev⟩ : ∃ ra rn rc, rvv r = .slice ra rn rc := ⟨_, _, _, rfl⟩
        rw [ev] at cr0
        have f1 := HR5.out.frozen 1
        have m1 : W5.cell? ⟨gx, 1, none⟩ = some (rvv l.r) := HR5.out.cell 1
        have HUNE := Lib.hid (show u.ownBlock ≠ some gx from fun e => by have := (HA.out.1.lt gx e).2; have := HX.out; omega)
        have HGX := Lib.hid (show V0.heap.size ≤ gx from by have := HA.out.2.2.size; have := HX.out; omega)
        obtain ⟨W6, hW6⟩ : ∃ W, W = W5.setCell ⟨gx, 1, none⟩ (.slice ra rn rc) := ⟨_, rfl⟩
        have HAX := Lib.hid (show AccG V0 gv 38 (mkT 0) 45 2 u O.length (O.flatMap lnc) W6 from by rw [hW6]; exact HA5.out.setOther HGX.out HV.out.2.2.2.lt HUNE.out 1 _)
        have HRX := Lib.hid (show Row W6 gx 45 #[.int .i64 l.n, rvv r] from by rw [hW6, ev]; exact HR5.out.set 1 _)
        have HW6 := Lib.hid hW6
        have HQ := Lib.hid hq
        clear hnp hgr hcr hr hW6 hb ev
        go_upto_region 9 with fail
        try simp only [Act.put, List.setIfInBounds_toArray, List.set_cons_zero, List.set_cons_succ]
        rw [← HW6.out]
        clear hq cr0 f1 m1 nz nz' hqn hqi
        have s00 : W6.cell? ⟨g + 1 + 1, 0, none⟩ = some (.int .u32 gone) := (HV.out.2.1.below (HAX.out.bel (B := gv) (Nat.le_refl _) (Nat.le_of_lt HV.out.2.2.2.lt)) (by have := HGV.out; omega)).cell 0
        go_cut [55] from 49 to 55 (fun s55 wx => ∃ b : Bool, s55 = .bool b ∧ W6 = wx)
        case first =>
          go_wp2_with fail
          all_goals first | exact (undef_no (by assumption)).elim | (go_meet; exact ⟨_, rfl, rfl⟩)
        obtain ⟨b2, rfl, rfl⟩ := hcut
        clear s00 s0
        cases b2 with
        | false =>
          go_wp2_with fail
          go_roundw
          case rel => exact ⟨k + 1, _, O, HKN.out, by go_num, by rw [List.take_add_one, HLK.out]; simp only [Option.toList, List.map_append]; exact List.sublist_append_of_sublist_left HSUB.out, HAX.out, HOK.out⟩
          case measure => have := HKN.out; simp [intOf] <;> omega
        | true =>
          have k1 : W6.cell? ⟨gv, 1, none⟩ = some u := HAX.out.2.1.cell 1
          have m0 : W6.cell? ⟨gx, 0, none⟩ = some (.int .i64 l.n) := HRX.out.cell 0
          have m1 : W6.cell? ⟨gx, 1, none⟩ = some (rvv r) := HRX.out.cell 1
          go_wp2_with (first | ((with_reducible show wpList _ _ _ (Oper.mk _ (Op.call _) _ _ _ _ :: _) _ _); (refine wpList_pushK rfl (.tmp 57) (.tmp 59) 36 45 rfl _ 2 32 Try.underlying36 Try.info45 rfl (by decide) (by decide) V0.heap.size u O.length (O.flatMap lnc) rfl W6 _ (lnc (Ln.mk l.n r)) rfl (one_lnc _) rfl HAX.out.1 HAX.out.2.2.size W6.heap.size rfl rfl (by have := HOL.out; omega) (fun ge ce w' hv' hg => ?_); obtain ⟨hrow, hAF⟩ := AccG.push HAX.out HV.out.2.2.2.lt ((Below.refl _ _).alloc (Nat.le_refl _) _) hv' hg 1 rfl; have z3 : w'.cell? ⟨gv, 1, none⟩ = some u := hrow.cell 1; have z4 := hrow.frozen 1; have HAF := Lib.hid hAF; clear hAF hrow hv' hg)))
          go_roundw
          case rel => exact ⟨k + 1, _, O ++ [Ln.mk l.n r], HKN.out, by go_num, by rw [List.take_add_one, HLK.out]; simp only [Option.toList, List.map_append]; exact List.Sublist.append HSUB.out (List.Sublist.refl _), by rw [List.length_append, ← fl_snoc]; exact HAF.out, fun l' hl' => by
            rcases List.mem_append.1 hl' with q | q
            · exact HOK.out l' q
            · rw [List.mem_singleton.1 q]; exact HROK.out⟩
          case measure => have := HKN.out; simp [intOf] <;> omega
      | false =>
        have HAX := HA5
        have HRX := HR5
        have HROK := HLROK
        obtain ⟨r, hr⟩ : ∃ r, r = l.r := ⟨_, rfl⟩
        rw [← hr] at HRX HROK
        clear hr hb
        go_upto_region 9 with fail
        try simp only [Act.put, List.setIfInBounds_toArray, List.set_cons_zero, List.set_cons_succ]
        skip
        have s00 : W5.cell? ⟨g + 1 + 1, 0, none⟩ = some (.int .u32 gone) := (HV.out.2.1.below (HAX.out.bel (B := gv) (Nat.le_refl _) (Nat.le_of_lt HV.out.2.2.2.lt)) (by have := HGV.out; omega)).cell 0
        go_cut [55] from 49 to 55 (fun s55 wx => ∃ b : Bool, s55 = .bool b ∧ W5 = wx)
        case first =>
          go_wp2_with fail
          all_goals first | exact (undef_no (by assumption)).elim | (go_meet; exact ⟨_, rfl, rfl⟩)
        obtain ⟨b2, rfl, rfl⟩ := hcut
        clear s00 s0
        cases b2 with
        | false =>
          go_wp2_with fail
          go_roundw
          case rel => exact ⟨k + 1, _, O, HKN.out, by go_num, by rw [List.take_add_one, HLK.out]; simp only [Option.toList, List.map_append]; exact List.sublist_append_of_sublist_left HSUB.out, HAX.out, HOK.out⟩
          case measure => have := HKN.out; simp [intOf] <;> omega
        | true =>
          have k1 : W5.cell? ⟨gv, 1, none⟩ = some u := HAX.out.2.1.cell 1
          have m0 : W5.cell? ⟨gx, 0, none⟩ = some (.int .i64 l.n) := HRX.out.cell 0
          have m1 : W5.cell? ⟨gx, 1, none⟩ = some (rvv r) := HRX.out.cell 1
          go_wp2_with (first | ((with_reducible show wpList _ _ _ (Oper.mk _ (Op.call _) _ _ _ _ :: _) _ _); (refine wpList_pushK rfl (.tmp 57) (.tmp 59) 36 45 rfl _ 2 32 Try.underlying36 Try.info45 rfl (by decide) (by decide) V0.heap.size u O.length (O.flatMap lnc) rfl W5 _ (lnc (Ln.mk l.n r)) rfl (one_lnc _) rfl HAX.out.1 HAX.out.2.2.size W5.heap.size rfl rfl (by have := HOL.out; omega) (fun ge ce w' hv' hg => ?_); obtain ⟨hrow, hAF⟩ := AccG.push HAX.out HV.out.2.2.2.lt ((Below.refl _ _).alloc (Nat.le_refl _) _) hv' hg 1 rfl; have z3 : w'.cell? ⟨gv, 1, none⟩ = some u := hrow.cell 1; have z4 := hrow.frozen 1; have HAF := Lib.hid hAF; clear hAF hrow hv' hg)))
          go_roundw
          case rel => exact ⟨k + 1, _, O ++ [Ln.mk l.n r], HKN.out, by go_num, by rw [List.take_add_one, HLK.out]; simp only [Option.toList, List.map_append]; exact List.Sublist.append HSUB.out (List.Sublist.refl _), by rw [List.length_append, ← fl_snoc]; exact HAF.out, fun l' hl' => by
            rcases List.mem_append.1 hl' with q | q
            · exact HOK.out l' q
            · rw [List.mem_singleton.1 q]; exact HROK.out⟩
          case measure => have := HKN.out; simp [intOf] <;> omega
    · have ki : ¬ (k : Int) < (n1 : Int) := by omega
      have HBW := Lib.hid (bel_tr HBV.out (show Below V0.heap.size V0 V0 from Below.refl _ _))
      have k2 : wr.cell? ⟨g + 1, 0, none⟩ = some (.int .i64 N) := (HV.out.1.below BA (by have := HGV.out; omega)).cell 0
      have k3 : wr.cell? ⟨g + 1 + 1, 3, none⟩ = some (.int .u8 sk) := (HV.out.2.1.below BA (by have := HGV.out; omega)).cell 3
      have k4 : wr.cell? ⟨gv, 0, none⟩ = some (.int .i64 0) := hA.2.1.cell 0
      have k5 := hA.2.1.frozen 0
      have HO := Lib.hid (show (O.map (·.n)).Sublist (L.map (·.n)) from by rw [List.take_of_length_le (by have := HN1.out; omega)] at hsub; exact hsub)
      have hnr6 : nr ≤ 6 := hRn
      obtain ⟨sv, hsv⟩ : ∃ z : Int, z = (sk : Int) % 3 := ⟨_, rfl⟩
      have hsv0 : 0 ≤ sv ∧ sv ≤ 2 := by omega
      have HSV := Lib.hid hsv0
      clear hA hok hsub hk hkn BA
      go_upto_region 12 with fail
      try simp only [Act.put, List.setIfInBounds_toArray, List.set_cons_zero, List.set_cons_succ]
      obtain ⟨w5, hw5⟩ : ∃ x, x = wr.setCell ⟨gv, 0, none⟩ (.int .i64 (N + (sk : Int) % 3)) := ⟨_, rfl⟩
      rw [← hw5]
      have HA6 := Lib.hid (show AccG V0 gv 38 (mkT (N + sv + ((0 : Nat) : Int))) 45 2 u O.length (O.flatMap lnc) w5 from by
        rw [hw5, hsv]
        refine HA.out.turn HV.out.2.2.2.lt 0 _ ?_
        simp [mkT])
      have HRO := Lib.hid (sub_rising HRI.out HO.out)
      clear hw5 hsv k2 k3 k4 k5 j11 hsv0
      obtain ⟨wo, hwo⟩ : ∃ x, x = wr := ⟨_, rfl⟩
      subst hwo
      go_wp2_with fail
      go_loopw [11] (fun iv wr => ∃ (j : Nat) (u : Value) (A : List Ln), j ≤ nr ∧ iv = .int .i64 j ∧ A.length ≤ n1 + j ∧ Rising (N + sv + j) A ∧ (∀ l ∈ A, l.n < N → ∃ l0 ∈ L, l0.n = l.n) ∧ AccG V0 gv 38 (mkT (N + sv + j)) 45 2 u A.length (A.flatMap lnc) wr ∧ ∀ l ∈ A, Rok V0 l.r) (fun iv _ => nr - (intOf iv).toNat)
      case atStart => exact ⟨0, u, O, by omega, rfl, by have q := HO.out.length_le; simp at q; have := HN1.out; omega, HRO.out.le (by have := HSV.out; simp; omega), fun l hl _ => by
        obtain ⟨l0, h0, e⟩ := List.mem_map.1 (HO.out.subset (List.mem_map_of_mem hl))
        exact ⟨l0, h0, e⟩, HA6.out, HOK.out⟩
      case round =>
        obtain ⟨j, u2, A, hj, rfl, hlA, hri, hold, hA, hokA⟩ := hrel
        obtain ⟨M, hM⟩ : ∃ M, M = N + sv + (j : Int) := ⟨_, rfl⟩
        rw [← hM] at hri hA
        have hM0 : 0 ≤ M := by have := HSV.out; omega
        have hM1 : M ≤ 100100 := by have := HSV.out; omega
        have hMN : N ≤ M := by have := HSV.out; omega
        have HM := Lib.hid hM
        have HA7 := Lib.hid hA
        have HRI7 := Lib.hid hri
        have HOLD := Lib.hid hold
        have HOK7 := Lib.hid hokA
        have HLA := Lib.hid (show A.length ≤ n1 + j ∧ j ≤ nr ∧ nr ≤ 6 ∧ n1 ≤ 1000 from ⟨hlA, hj, hnr6, hL⟩)
        have HMM := Lib.hid (show 0 ≤ M ∧ N ≤ M ∧ M ≤ N + 8 from ⟨hM0, hMN, by have := HSV.out; omega⟩)
        have BA := hA.bel (B := gv) (Nat.le_refl _) (Nat.le_of_lt HV.out.2.2.2.lt)
        have k40 : wr.cell? ⟨gv, 0, none⟩ = some (.int .i64 M) := hA.2.1.cell 0
        have k41 : wr.cell? ⟨gv, 1, none⟩ = some u2 := hA.2.1.cell 1
        have HRR := Lib.hid (HV.out.2.2.1.below BA (by have := HGV.out; omega))
        have HBw := Lib.hid (show Below w.heap.size w wr from HBV.out.trans (BA.mono (by have := HGV.out; have := EG.out; omega)))
        clear hM
        by_cases hjn : j < nr
        · have ki : (j : Int) < (nr : Int) := by omega
          obtain ⟨gr, or, rfl, hgr, hcr⟩ := HRS.out.1.form (by rw [← HNR.out]; omega)
          obtain ⟨r, hr⟩ : ∃ f, RS[j]? = some f := ⟨_, List.getElem?_eq_getElem (by rw [← HNR.out]; omega)⟩
          have HROK := Lib.hid (HRS.out.2 r (List.mem_of_getElem? hr))
          have cr0 : wr.cell? ⟨gr, or + j, none⟩ = some (rvv r) := by
            have h1 := (Lt.but (g := gv) (t := 38) (z := mkT 0 (.slice none 0 0)) HRS.out.1 HV.out.2.2.2 (by decide) hA.2.2.size (fun q hq hne => hA.2.2.block q hq (by intro e; exact hne (Option.some.inj e))))
            obtain ⟨g', o', e', _, hc'⟩ := h1.form (by rw [← HNR.out]; omega)
            injection e' with e'
            injection e' with e1 e2
            subst e1 e2
            have := hc' j r hr 0 _ rfl
            rw [Nat.mul_one] at this
            exact this
          have k3b : ∀ (o : Obj), (wr.alloc o).cell? ⟨gv, 1, none⟩ = some u2 := fun o => ((Below.refl wr.heap.size wr).alloc (Nat.le_refl _) o |>.cell (p := ⟨gv, 1, none⟩) hA.2.1.lt).trans k41
          have HJN := Lib.hid hjn
          have j1000 : j ≤ 1000 := by omega
          clear hgr hcr hr hj hlA hri hold hA hokA hjn BA
          go_wp2_with fail
          go_region_law (refine step_pushK rfl (.tmp 77) (.tmp 85) 36 45 rfl _ 2 32 Try.underlying36 Try.info45 rfl (by decide) (by decide) V0.heap.size u2 A.length (A.flatMap lnc) rfl wr.drew _ (lnc (Ln.mk M r)) rfl (one_lnc _) rfl (HA7.out.drewN 1).1 (HA7.out.drewN 1).2.2.size wr.heap.size rfl rfl (by have := HLA.out; omega) (fun ge ce w' hv' hg => ?_); obtain ⟨hrow, hAF⟩ := AccG.push (HA7.out.drewN 1) HV.out.2.2.2.lt ((Below.refl _ _).alloc (Nat.le_refl _) _) hv' hg 1 rfl; have z3 : w'.cell? ⟨gv, 1, none⟩ = some u2 := hrow.cell 1; have z4 := hrow.frozen 1; have HAF := Lib.hid hAF; clear hAF hrow hv' hg)
          all_goals
            have HAG : Hid (AccG V0 gv 38 (mkT M) 45 2 (.slice (some ⟨ge, 0, none⟩) (A.length + 1) ce) (A.length + 1) (A.flatMap lnc ++ lnc (Ln.mk M r)) (w'.setCell ⟨gv, 1, none⟩ (.slice (some ⟨ge, 0, none⟩) (A.length + 1) ce))) := HAF
            obtain ⟨w8, hw8⟩ : ∃ x, x = w'.setCell ⟨gv, 1, none⟩ (.slice (some ⟨ge, 0, none⟩) (A.length + 1) ce) := ⟨_, rfl⟩
            rw [← hw8] at HAG
            try rw [← hw8]
            have kN0 : w8.cell? ⟨gv, 0, none⟩ = some (.int .i64 M) := HAG.out.2.1.cell 0
            have kN1 := HAG.out.2.1.frozen 0
            clear HAF hw8 z3 z4 k3b k40 k41 cr0
            go_wp2_with fail
            go_roundw
            case rel => exact ⟨j + 1, _, A ++ [Ln.mk M r], HJN.out, by go_num, by have := HLA.out; simp; omega, Rising.push HRI7.out HMM.out.1 (Int.le_refl _) (by have := HM.out; simp; omega), fun l hl hlt => by
              rcases List.mem_append.1 hl with q | q
              · exact HOLD.out l q hlt
              · exfalso; rw [List.mem_singleton.1 q] at hlt; have := HMM.out.2.1; have hlt : M < N := hlt; omega, by
              have q := HAG.out.turn HV.out.2.2.2.lt 0 (.int .i64 (M + 1)) (mk' := mkT (M + 1)) rfl
              rw [List.length_append, ← fl_snoc, show N + sv + ((j + 1 : Nat) : Int) = M + 1 by have := HM.out; omega]
              exact q, fun l hl => by
              rcases List.mem_append.1 hl with q | q
              · exact HOK7.out l q
              · rw [List.mem_singleton.1 q]; exact HROK.out⟩
            case measure => have := HJN.out; simp [intOf] <;> omega
        · have ki : ¬ (j : Int) < (nr : Int) := by omega
          obtain ⟨ax, cx, ev, hcap, hlt⟩ := lns_put hA.1 (show g + 1 + 1 + 1 < V0.heap.size from HV.out.2.2.1.lt) #[.int .i64 M, u2]
          have hokw : ∀ l ∈ A, Rok (wr.setRow (g + 1 + 1 + 1) #[.int .i64 M, u2]) l.r := fun l hl => Rok.put (⟨(hokA l hl).1.but (g := gv) (t := 38) (z := mkT 0 (.slice none 0 0)) HV.out.2.2.2 (by decide) hA.2.2.size (fun q hq hne => hA.2.2.block q hq (by intro e; exact hne (Option.some.inj e))), (hokA l hl).2⟩ : Rok wr l.r) HRR.out (by decide) _
          have HFIN := Lib.hid (show RetBr N L (.returned (.agg #[.int .i64 M, u2])) (wr.setRow (g + 1 + 1 + 1) #[.int .i64 M, u2]) ∧ Below w.heap.size w (wr.setRow (g + 1 + 1 + 1) #[.int .i64 M, u2]) from ⟨⟨_, M, A, rfl, ⟨ax, cx, by rw [ev], hcap, hlt, hokw⟩, hri, HMM.out.2.1, HMM.out.2.2, by have := HN1.out; omega, hold⟩, below_putRow HBw.out (by have := EG.out; omega) _⟩)
          have HONE := Lib.hid (show (#[Value.int .i64 M, u2]).all (·.oneCell') = true by rw [ev]; simp [Value.oneCell'])
          clear ev hcap hlt hokw hjn hj hlA hri hold hA hokA BA
          go_wp2_with (first | ((with_reducible show wpList _ _ _ (Oper.mk _ (Op.load _ _) _ _ _ _ :: _) _ _); refine wpList_load_mid rfl 38 (.tmp 7) rfl gv 0 rfl [.int .i64 M, u2] _ (by intro j v hv; rw [Nat.zero_add]; exact (HA7.out.2.1.cell j).trans (by simpa [mkT] using hv)) Try.underlying38 rfl Try.n38 ?_) | ((with_reducible show wpList _ _ _ (Oper.mk _ (Op.store _ _ _) _ _ _ _ :: _) _ _); refine wpList_put_arr rfl 38 (.tmp 6) (.tmp 92) rfl rfl (g + 1 + 1 + 1) 38 _ #[.int .i64 M, u2] rfl rfl HRR.out Try.n38 rfl HONE.out ?_))
          try simp only [Exit.inBlock, Exit.then]
          refine bodyPost_ret (results_cell_row (p := 6) (ty := 38) rfl _ _ (g + 1 + 1 + 1) 38 #[.int .i64 M, u2] (0, 0) _ rfl (Row.setRow HRR.out _) Try.underlying38 rfl Try.n38) rfl ?_
          exact HFIN.out
end Go.Proofs.Ytkonoojmhjinpaa
