/- Contracts: isFeed (the answer true). -/
import Derived.Test.YtkonoojmhjinpaaFd
set_option linter.all false
namespace Go.Proofs.Ytkonoojmhjinpaa
open Go.RowKit Go.Fen
set_option linter.unusedVariables false
set_option maxHeartbeats 4000000

theorem Try.z71 : (Try.prog.info? 71).bind (·.zero) = some (.agg #[.int .i64 0, .int .i64 0, .slice none 0 0]) := by kernel_rfl
theorem Try.n71 : (Try.prog.info? 71).map (·.size) = some 3 := by kernel_rfl
/-- a list of events is a feed -/
def FeedOk (E : List Ev) : Prop := ∀ (i : Nat) (x : Ev), E[i]? = some x → (x.k = 1 ∨ x.k = 2) ∧ 0 ≤ x.n ∧ x.n < 1000000 ∧ ∀ (j : Nat) (y : Ev), i = j + 1 → E[j]? = some y → y.n < x.n ∨ (y.n = x.n ∧ y.k = 2 ∧ x.k = 1 ∧ y.r.R ≠ x.r.R)
set_option maxRecDepth 20000 in
theorem isFeed_any (a : Option Addr) (E : List Ev) (n c : Nat) (w : World) (hn : n = E.length) (hE : Evs w a E) (hF : FeedOk E) (hL : n ≤ 10000) : Calls Try.prog 26 #[.slice a n c] w fun e w' => e = .returned (.bool true) ∧ Below w.heap.size w w' := by
  have HE := Lib.hid hE
  have HF := Lib.hid hF
  have HN := Lib.hid hn
  clear hE hF hn
  go_enter Try.func26, Try.ntmps26
  go_wp2_with fail
  go_loopw [8] (fun iv wr => ∃ (k : Nat), k ≤ n ∧ iv = .int .i64 k ∧ Below w.heap.size w wr) (fun iv _ => n - (intOf iv).toNat)
  case atStart => exact ⟨0, by omega, rfl, Below.refl _ _⟩
  case round =>
    obtain ⟨k, hk, rfl, hb⟩ := hrel
    by_cases hkn : k < n
    · have ki : (k : Int) < (n : Int) := by omega
      obtain ⟨gl, ol, rfl, hgl, hc⟩ := HE.out.1.form (by rw [← HN.out]; omega)
      obtain ⟨x, hx⟩ : ∃ f, E[k]? = some f := ⟨_, List.getElem?_eq_getElem (by rw [← HN.out]; omega)⟩
      have hrx := HE.out.2 x (List.mem_of_getElem? hx)
      obtain ⟨hk12, hn0, hn1, hprev⟩ := HF.out k x hx
      have hrg := range_below (hc k x hx) hb hgl
      have c0 : wr.cell? ⟨gl, ol + k * 3, none⟩ = some (.int .i64 x.k) := by have := hrg 0 _ rfl; rw [Nat.add_zero] at this; exact this
      have c1 : wr.cell? ⟨gl, ol + k * 3 + 1, none⟩ = some (.int .i64 x.n) := hrg 1 _ rfl
      have c2 : wr.cell? ⟨gl, ol + k * 3 + 2, none⟩ = some (rvv x.r) := hrg 2 _ rfl
      obtain ⟨gx, hgx⟩ : ∃ z, z = wr.heap.size := ⟨_, rfl⟩
      obtain ⟨Wz, hWz⟩ : ∃ W, W = wr.alloc (.cells #[.int .i64 0, .int .i64 0, .slice none 0 0] 71) := ⟨_, rfl⟩
      obtain ⟨W5, hW5⟩ : ∃ W, W = Wz.setRow gx #[.int .i64 x.k, .int .i64 x.n, rvv x.r] := ⟨_, rfl⟩
      have Rz : Row Wz gx 71 #[.int .i64 0, .int .i64 0, .slice none 0 0] := by rw [hWz]; exact Row.new' 71 _ hgx
      have b5 : Below wr.heap.size wr W5 := by rw [hW5, hWz, setRow_new _ _ _ _ _ hgx]; exact (Below.refl _ _).alloc (Nat.le_refl _) _
      have R5 : Row W5 gx 71 #[.int .i64 x.k, .int .i64 x.n, rvv x.r] := by rw [hW5]; exact Row.setRow Rz _
      have k50 : W5.cell? ⟨gx, 0, none⟩ = some (.int .i64 x.k) := R5.cell 0
      have k51 : W5.cell? ⟨gx, 1, none⟩ = some (.int .i64 x.n) := R5.cell 1
      have k52 : W5.cell? ⟨gx, 2, none⟩ = some (rvv x.r) := R5.cell 2
      have HX := Lib.hid hgx
      have HWz := Lib.hid hWz
      have HW5 := Lib.hid hW5
      have HRz := Lib.hid Rz
      have HR5 := Lib.hid R5
      have HB5 := Lib.hid (hb.trans (b5.mono hb.size))
      have HKN := Lib.hid hkn
      have HONE := Lib.hid (show (#[Value.int .i64 x.k, .int .i64 x.n, rvv x.r]).all (·.oneCell') = true by simp [Value.oneCell', rvv])
      have e0 : ¬ x.n < 0 := by omega
      have e0' : decide (x.n < 0) = false := decide_eq_false e0
      have e1 : ¬ (4611686018427387904 : Int) ≤ x.n := by omega
      have e1' : decide ((4611686018427387904 : Int) ≤ x.n) = false := decide_eq_false e1
      rcases Nat.eq_zero_or_pos k with hk0 | hk0
      · subst hk0
        simp only [Nat.zero_mul, Nat.add_zero] at c0 c1 c2
        clear hgx hWz hW5 Rz R5 hrg hx hprev hc hgl hkn hk b5 hb hrx
        rcases hk12 with hk1 | hk1
        all_goals
          rw [hk1] at k50
          clear hk1
          go_wp2_with (first | ((with_reducible show wpList _ _ _ (Oper.mk _ (Op.alloc _) _ _ _ _ :: _) _ _); (refine wpList_alloc_row rfl 71 rfl #[.int .i64 0, .int .i64 0, .slice none 0 0] Try.z71 gx HX.out ?_; refine wpList_atE HWz.out ?_)) | ((with_reducible show wpList _ _ _ (Oper.mk _ (Op.store _ _ _) _ _ _ _ :: _) _ _); (refine wpList_put_arr rfl 71 (.tmp 4) (.tmp 12) rfl rfl gx 71 _ #[.int .i64 x.k, .int .i64 x.n, rvv x.r] rfl rfl HRz.out Try.n71 rfl HONE.out ?_; refine wpList_atE HW5.out ?_)))
          go_quiet (fail)
          go_wp2_with fail
          go_roundw
          case rel => exact ⟨1, HKN.out, by go_num, below_drewN HB5.out _⟩
          case measure => have := HKN.out; simp [intOf] <;> omega
      · obtain ⟨j, hj⟩ : ∃ j, k = j + 1 := ⟨k - 1, by omega⟩
        have kz : ((k : Int) == 0) = false := beq_eq_false_iff_ne.2 (by omega)
        have km : (k : Int) - 1 = (j : Int) := by omega
        have j10 : j < n := by omega
        obtain ⟨y, hy⟩ : ∃ f, E[j]? = some f := ⟨_, List.getElem?_eq_getElem (by rw [← HN.out]; omega)⟩
        have hp := hprev j y hj hy
        have hry := HE.out.2 y (List.mem_of_getElem? hy)
        have hry5 := range_below (hc j y hy) HB5.out hgl
        have d1 : W5.cell? ⟨gl, ol + j * 3 + 1, none⟩ = some (.int .i64 y.n) := hry5 1 _ rfl
        have HRY := Lib.hid hry5
        have HROK := Lib.hid (And.intro (hrx.bel HB5.out) (hry.bel HB5.out))
        have HGL := Lib.hid hgl
        have k10 : k ≤ 10000 := by omega
        clear hj hk0 hgx hWz hW5 Rz R5 hrg hx hy hprev hc hgl hkn hk b5 hb hrx hry hry5
        rcases hp with hlt | ⟨heq, hy2, hx1, hne⟩
        · have q1 : decide (y.n < x.n) = true := decide_eq_true hlt
          rcases hk12 with hk1 | hk1
          all_goals
            rw [hk1] at k50
            clear hk1
            go_wp2_with (first | ((with_reducible show wpList _ _ _ (Oper.mk _ (Op.alloc _) _ _ _ _ :: _) _ _); (refine wpList_alloc_row rfl 71 rfl #[.int .i64 0, .int .i64 0, .slice none 0 0] Try.z71 gx HX.out ?_; refine wpList_atE HWz.out ?_)) | ((with_reducible show wpList _ _ _ (Oper.mk _ (Op.store _ _ _) _ _ _ _ :: _) _ _); (refine wpList_put_arr rfl 71 (.tmp 4) (.tmp 12) rfl rfl gx 71 _ #[.int .i64 x.k, .int .i64 x.n, rvv x.r] rfl rfl HRz.out Try.n71 rfl HONE.out ?_; refine wpList_atE HW5.out ?_)))
            go_quiet (fail)
            go_wp2_with fail
            go_roundw
            case rel => exact ⟨k + 1, HKN.out, by go_num, below_drewN HB5.out _⟩
            case measure => have := HKN.out; simp [intOf] <;> omega
        · clear hk12
          rw [hx1] at k50
          rw [heq] at d1
          have d0 : W5.cell? ⟨gl, ol + j * 3, none⟩ = some (.int .i64 2) := by have := HRY.out 0 _ rfl; rw [Nat.add_zero] at this; rw [← hy2]; exact this
          have d2 : W5.cell? ⟨gl, ol + j * 3 + 2, none⟩ = some (rvv y.r) := HRY.out 2 _ rfl
          have HNE := Lib.hid (show decide (x.r.R = y.r.R) = false from decide_eq_false (fun e => hne e.symm))
          clear hx1 hy2 heq hne
          go_wp2_with (first | ((with_reducible show wpList _ _ _ (Oper.mk _ (Op.alloc _) _ _ _ _ :: _) _ _); (refine wpList_alloc_row rfl 71 rfl #[.int .i64 0, .int .i64 0, .slice none 0 0] Try.z71 gx HX.out ?_; refine wpList_atE HWz.out ?_)) | ((with_reducible show wpList _ _ _ (Oper.mk _ (Op.store _ _ _) _ _ _ _ :: _) _ _); (refine wpList_put_arr rfl 71 (.tmp 4) (.tmp 12) rfl rfl gx 71 _ #[.int .i64 x.k, .int .i64 x.n, rvv x.r] rfl rfl HRz.out Try.n71 rfl HONE.out ?_; refine wpList_atE HW5.out ?_)))
          go_quiet (fail)
          obtain ⟨W6, hW6⟩ : ∃ W, W = W5.drewN nq := ⟨_, rfl⟩
          obtain ⟨gy, hgy⟩ : ∃ z, z = W6.heap.size := ⟨_, rfl⟩
          obtain ⟨W7, hW7⟩ : ∃ W, W = W6.alloc (.cells #[.int .i64 2, .int .i64 x.n, rvv y.r] 71) := ⟨_, rfl⟩
          have b6 : Below W5.heap.size W5 W6 := by rw [hW6]; exact below_drewN (Below.refl _ _) _
          have b7 : Below W6.heap.size W6 W7 := by rw [hW7]; exact (Below.refl _ _).alloc (Nat.le_refl _) _
          have b57 := bel_tr b6 b7
          have R7 : Row W7 gx 71 _ := HR5.out.below b57 HR5.out.lt
          have S7 : Row W7 gy 71 #[.int .i64 2, .int .i64 x.n, rvv y.r] := by rw [hW7]; exact Row.new' 71 _ hgy
          have k70 : W7.cell? ⟨gx, 0, none⟩ = some (.int .i64 1) := by have q : W7.cell? ⟨gx, 0, none⟩ = _ := R7.cell 0; rw [q]; exact (HR5.out.cell 0).symm.trans k50
          have k71 : W7.cell? ⟨gx, 1, none⟩ = some (.int .i64 x.n) := R7.cell 1
          have k72 : W7.cell? ⟨gx, 2, none⟩ = some (rvv x.r) := R7.cell 2
          have l70 : W7.cell? ⟨gy, 0, none⟩ = some (.int .i64 2) := S7.cell 0
          have l71 : W7.cell? ⟨gy, 1, none⟩ = some (.int .i64 x.n) := S7.cell 1
          have l72 : W7.cell? ⟨gy, 2, none⟩ = some (rvv y.r) := S7.cell 2
          have d60 : W6.cell? ⟨gl, ol + j * 3, none⟩ = some (.int .i64 2) := by rw [hW6]; simpa using d0
          have d61 : W6.cell? ⟨gl, ol + j * 3 + 1, none⟩ = some (.int .i64 x.n) := by rw [hW6]; simpa using d1
          have d62 : W6.cell? ⟨gl, ol + j * 3 + 2, none⟩ = some (rvv y.r) := by rw [hW6]; simpa using d2
          have HCALL := Lib.hid (equal_any x.r y.r W7 (HROK.out.1.bel b57) (HROK.out.2.bel b57))
          have HB7 := Lib.hid (HB5.out.trans (b57.mono HB5.out.size))
          rw [← hW6]
          have HGY := Lib.hid hgy
          have HW7 := Lib.hid hW7
          clear hW6 hgy hW7 b6 b7 b57 R7 S7 d0 d1 d2 k50 k51 k52
          go_wp2_with (first | ((with_reducible show wpList _ _ _ (Oper.mk _ (Op.alloc _) _ _ _ _ :: _) _ _); (refine wpList_new_row rfl rfl 71 5 (.tmp 52) rfl rfl rfl rfl gy HGY.out #[.int .i64 2, .int .i64 x.n, rvv y.r] rfl rfl _ Try.z71 Try.n71 rfl (by simp [Value.oneCell', rvv]) ?_; refine wpList_atE HW7.out ?_)) | ((go_at_call 49; refine HCALL.out.mono ?_; rintro e w8 ⟨rfl, hb8⟩; rw [HNE.out]; have HB8 := Lib.hid (HB7.out.trans (hb8.mono HB7.out.size)); clear hb8)))
          go_roundw
          case rel => exact ⟨k + 1, HKN.out, by go_num, HB8.out⟩
          case measure => have := HKN.out; simp [intOf] <;> omega
    · have ki : ¬ (k : Int) < (n : Int) := by omega
      have HBE := Lib.hid hb
      clear hb
      go_wp2_with fail
      first | go_ret | ((try simp only [Exit.inBlock, Exit.then]); go_ret)
      exact ⟨rfl, HBE.out⟩
end Go.Proofs.Ytkonoojmhjinpaa
