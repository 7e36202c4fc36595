/- The contract of hilbert.Point. -/
import Derived.Test.YtnpkbjekodjcjaaDoorG
import Derived.Test.YtnpkbjekodjcjaaDoorKit6
set_option linter.all false
namespace Go.Proofs.YtnpkbjekodjcjaaDoor
open Go.RowKit Go.Fen Hil
set_option linter.unusedVariables false
set_option maxHeartbeats 4000000

theorem Tryd.z67 : (Tryd.prog.info? 67).bind (·.zero) = some (.agg #[.int .u32 0, .int .u32 0, .nilFunc, .nilFunc]) := by kernel_rfl
theorem Tryd.n67 : (Tryd.prog.info? 67).map (·.size) = some 4 := by kernel_rfl
theorem one_qrow (a b : Nat) (f : Nat) : (#[.int .u32 a, .int .u32 b, .func (.func f) #[] #[], .func (.func f) #[] #[]] : Array Value).all (·.oneCell') = true := by simp [Value.oneCell']

theorem and3 (d : Nat) (hd : d < 4294967296) : bits BinOp.and IntKind.u64 (d : Int) 3 = ((d % 4 : Nat) : Int) := by
  rw [u64_and _ _ (by omega) (by omega) (by omega) (by omega)]
  rw [show ((3 : Int).toNat) = 2 ^ 2 - 1 from rfl, Int.toNat_natCast, Nat.and_two_pow_sub_one_eq_mod]

theorem pnt_step (j i : Nat) : pnt (j + 1) (i % 4 ^ (j + 1)) = put (2 ^ j) (i / 4 ^ j % 4) (pnt j (i % 4 ^ j)) := by
  rw [pnt, Nat.pow_succ, Nat.mod_mul_right_div_self, Nat.mod_mul_right_mod]

theorem point_any (k : Int) (i : Nat) (w : World) (hT : Tab w) :
    Calls Tryd.prog 13 #[.int .i64 k, .int .u64 i] w fun e w' => e = .returned (.tuple #[.int .u32 (pointR k i).1, .int .u32 (pointR k i).2.1, .int .i64 (pointR k i).2.2]) ∧ Below w.heap.size w w' := by
  have B0 := Lib.hid (Below.refl w.heap.size w)
  by_cases k1 : k < 1 ∨ 16 < k
  · have E : pointR k i = (0, 0, 1) := by rw [pointR, if_pos (by omega)]
    rw [E]
    have R := right_any k w
    rw [decide_eq_false (by omega)] at R
    have RR := Lib.hid R
    clear R hT E
    go_enter Tryd.func13, Tryd.ntmps13
    go_wp2_with fail
    refine RR.out.mono ?_
    rintro e w' ⟨rfl, rfl⟩
    go_wp2_with fail
    go_ret3
    exact ⟨rfl, B0.out⟩
  obtain ⟨n, rfl⟩ : ∃ n : Nat, k = n := ⟨k.toNat, by omega⟩
  have R := right_any n w
  rw [decide_eq_true (by omega)] at R
  have RR := Lib.hid R
  clear R
  obtain ⟨s, hs⟩ : ∃ s, s = 4 ^ n := ⟨_, rfl⟩
  have hn : n ≤ 16 := by omega
  have hs1 : s ≤ 4294967296 := by rw [hs]; exact four_le16 n hn
  have h2 : (2 : Int) ^ (2 * n) = (s : Int) := by rw [hs]; exact int_four_pow n
  have E : pointR n i = if s ≤ i then (0, 0, 1) else ((pnt n i).1, (pnt n i).2, 0) := by
    rw [pointR, Int.toNat_natCast, ← hs]
    by_cases h : s ≤ i
    · rw [if_pos h, if_pos (.inr (.inr h))]
    · rw [if_neg h, if_neg (by omega)]
  rw [E]
  have HS := Lib.hid hs
  have HT := Lib.hid hT
  clear E hs hT
  by_cases a : s ≤ i
  · rw [if_pos a]
    have a' : (s : Int) ≤ (i : Int) := by omega
    go_enter Tryd.func13, Tryd.ntmps13
    go_wp2_with fail
    refine RR.out.mono ?_
    rintro e w' ⟨rfl, rfl⟩
    go_wp2_with fail
    go_ret3
    exact ⟨rfl, B0.out⟩
  rw [if_neg a]
  have a' : ¬ (s : Int) ≤ (i : Int) := by omega
  have il : i < 4294967296 := by omega
  have IM := Lib.hid (show i % 4 ^ n = i by rw [← HS.out]; exact Nat.mod_eq_of_lt (by omega))
  obtain ⟨r, hr⟩ : ∃ r, r = pnt n i := ⟨_, rfl⟩
  rw [← hr]
  have HR := Lib.hid hr
  clear hr
  go_enter Tryd.func13, Tryd.ntmps13
  go_wp2_with fail
  refine RR.out.mono ?_
  rintro e w1 ⟨rfl, rfl⟩
  go_wp2_with fail
  clear h2
  go_loopw [7, 8, 9, 10, 11, 23] (fun vx vy _ _ _ iv wr => ∃ j x y : Nat, j ≤ n ∧ iv = .int .i64 j ∧ vx = .int .u32 x ∧ vy = .int .u32 y ∧ pnt j (i % 4 ^ j) = (x, y) ∧ Below w1.heap.size w1 wr) (fun _ _ _ _ _ iv _ => n - (intOf iv).toNat)
  case atStart => exact ⟨0, 0, 0, by omega, rfl, rfl, rfl, rfl, B0.out⟩
  case round =>
    obtain ⟨j, x, y, hj, rfl, rfl, rfl, hp, hb⟩ := hrel
    by_cases jn : j = n
    · subst jn
      rw [IM.out] at hp
      obtain ⟨r1, r2⟩ := r
      have HP := Lib.hid (HR.out.trans hp)
      have HB := Lib.hid hb
      clear hp hb hj
      go_wp2_with fail
      go_ret3
      have e1 := congrArg Prod.fst HP.out
      have e2 := congrArg Prod.snd HP.out
      simp only at e1 e2
      subst e1 e2
      exact ⟨rfl, HB.out⟩
    · have jl : j < n := by omega
      have ji : (j : Int) < (n : Int) := by omega
      obtain ⟨t, ht⟩ : ∃ t, t = 2 ^ j := ⟨_, rfl⟩
      obtain ⟨sq, hq⟩ : ∃ sq, sq = 4 ^ j := ⟨_, rfl⟩
      have t1 : (2 : Int) ^ j = (t : Int) := by rw [ht]; exact int_two_pow j
      have q1 : (2 : Int) ^ (2 * j) = (sq : Int) := by rw [hq]; exact int_four_pow j
      have tl : t ≤ 32768 := by rw [ht]; exact Nat.pow_le_pow_right (by decide) (show j ≤ 15 by omega)
      have tp : 0 < t := by rw [ht]; exact two_pos j
      have hl := pnt_lt j (i % 4 ^ j) (Nat.mod_lt _ (four_pos j))
      rw [hp, ← ht] at hl
      simp only at hl
      obtain ⟨xl, yl⟩ := hl
      obtain ⟨d, hd⟩ : ∃ d, d = i / sq := ⟨_, rfl⟩
      have d1 : (i : Int) / (sq : Int) = (d : Int) := by rw [hd]; simp
      have dl : d < 4294967296 := by rw [hd]; exact Nat.lt_of_le_of_lt (Nat.div_le_self _ _) il
      have st := pnt_step j i
      rw [hp, ← ht, ← hq, ← hd] at st
      have a3 := and3 d dl
      have q4 : d % 4 = 0 ∨ d % 4 = 1 ∨ d % 4 = 2 ∨ d % 4 = 3 := by omega
      have sl : sq ≤ 4294967296 := by rw [hq]; exact four_le16 j (by omega)
      have HTW := HT.out.below hb (Nat.le_refl _)
      have TW := Lib.hid HTW
      have HB := Lib.hid hb
      have HJ := Lib.hid jl
      have HT2 := Lib.hid ht
      have HD := Lib.hid hd
      have HQ := Lib.hid hq
      clear hp hb hj ht hd hq HTW jn jl
      rcases q4 with h | h | h | h
      · rw [h] at st a3
        have st' : pnt (j + 1) (i % 4 ^ (j + 1)) = (y, x) := st
        have a3' : bits BinOp.and IntKind.u64 (d : Int) 3 = 0 := a3
        obtain ⟨px, hpx⟩ : ∃ px : Nat, px = y := ⟨_, rfl⟩
        obtain ⟨py, hpy⟩ : ∃ py : Nat, py = x := ⟨_, rfl⟩
        have CQ : ∀ W, Calls Tryd.prog 74 #[.int .u32 t, .int .u32 x, .int .u32 y] W fun e w' => e = .returned (.tuple #[.int .u32 px, .int .u32 py]) ∧ w' = W := by
          rw [hpx, hpy]; exact fun W => swapped_any t x y W 
        have CALL := Lib.hid CQ
        have plx : px < t := by omega
        have ply : py < t := by omega
        have EN := Lib.hid (show pnt (j + 1) (i % 4 ^ (j + 1)) = (px + t * 0, py + t * 0) by rw [st']; congr 1 <;> omega)
        have tq := TW.out.2 0 (by decide)
        have r0 : wr.cell? ⟨0, 0, none⟩ = some (.int .u32 0) := tq.1
        have r1 : wr.cell? ⟨0, 1, none⟩ = some (.int .u32 0) := tq.2.1
        have r2 : wr.cell? ⟨0, 2, none⟩ = some (.func (.func 74) #[] #[]) := tq.2.2.1
        have r3 : wr.cell? ⟨0, 3, none⟩ = some (.func (.func 74) #[] #[]) := tq.2.2.2
        obtain ⟨g, eg⟩ : ∃ g, g = wr.heap.size := ⟨_, rfl⟩
        obtain ⟨W, hW⟩ : ∃ W, W = wr.alloc (.cells #[.int .u32 (0 : Nat), .int .u32 (0 : Nat), .func (.func 74) #[] #[], .func (.func 74) #[] #[]] 67) := ⟨_, rfl⟩
        have rw1 : Row W g 67 #[.int .u32 (0 : Nat), .int .u32 (0 : Nat), .func (.func 74) #[] #[], .func (.func 74) #[] #[]] := by rw [hW]; exact Row.new' 67 _ eg
        have s0 : W.cell? ⟨g, 0, none⟩ = some (.int .u32 0) := rw1.cell 0
        have s1 : W.cell? ⟨g, 1, none⟩ = some (.int .u32 0) := rw1.cell 1
        have s3 : W.cell? ⟨g, 3, none⟩ = some (.func (.func 74) #[] #[]) := rw1.cell 3
        have HBW := Lib.hid (show Below w1.heap.size w1 W by rw [hW]; exact HB.out.alloc HB.out.size _)
        have HW := Lib.hid hW
        have EG := Lib.hid eg
        clear st st' a3 CQ hpx hpy tq h xl yl hW eg rw1
        go_wp2_with (first | ((with_reducible show wpList _ _ _ (Oper.mk _ (Op.alloc _) _ _ _ _ :: _) _ _); refine wpList_new_row rfl rfl 67 11 (.tmp 34) rfl rfl rfl rfl g EG.out #[.int .u32 (0 : Nat), .int .u32 (0 : Nat), .func (.func 74) #[] #[], .func (.func 74) #[] #[]] rfl rfl _ Tryd.z67 Tryd.n67 rfl (one_qrow _ _ _) ?_; refine wpList_atE HW.out ?_))
        refine (CALL.out W).mono ?_
        rintro e w2 ⟨rfl, rfl⟩
        go_wp2_with fail
        go_quiet (fail)
        go_wp2_with fail
        go_roundw
        case rel => exact ⟨j + 1, px + t * 0, py + t * 0, HJ.out, by first | rfl | go_num, by first | rfl | go_num, by first | rfl | go_num, EN.out, below_drewN HBW.out _⟩
        case measure => have := HJ.out; simp [intOf] <;> omega
      · rw [h] at st a3
        have st' : pnt (j + 1) (i % 4 ^ (j + 1)) = (x, y + t) := st
        have a3' : bits BinOp.and IntKind.u64 (d : Int) 3 = 1 := a3
        obtain ⟨px, hpx⟩ : ∃ px : Nat, px = x := ⟨_, rfl⟩
        obtain ⟨py, hpy⟩ : ∃ py : Nat, py = y := ⟨_, rfl⟩
        have CQ : ∀ W, Calls Tryd.prog 75 #[.int .u32 t, .int .u32 x, .int .u32 y] W fun e w' => e = .returned (.tuple #[.int .u32 px, .int .u32 py]) ∧ w' = W := by
          rw [hpx, hpy]; exact fun W => same_any t x y W 
        have CALL := Lib.hid CQ
        have plx : px < t := by omega
        have ply : py < t := by omega
        have EN := Lib.hid (show pnt (j + 1) (i % 4 ^ (j + 1)) = (px + t * 0, py + t * 1) by rw [st']; congr 1 <;> omega)
        have tq := TW.out.2 1 (by decide)
        have r0 : wr.cell? ⟨0, 4, none⟩ = some (.int .u32 0) := tq.1
        have r1 : wr.cell? ⟨0, 5, none⟩ = some (.int .u32 1) := tq.2.1
        have r2 : wr.cell? ⟨0, 6, none⟩ = some (.func (.func 75) #[] #[]) := tq.2.2.1
        have r3 : wr.cell? ⟨0, 7, none⟩ = some (.func (.func 75) #[] #[]) := tq.2.2.2
        obtain ⟨g, eg⟩ : ∃ g, g = wr.heap.size := ⟨_, rfl⟩
        obtain ⟨W, hW⟩ : ∃ W, W = wr.alloc (.cells #[.int .u32 (0 : Nat), .int .u32 (1 : Nat), .func (.func 75) #[] #[], .func (.func 75) #[] #[]] 67) := ⟨_, rfl⟩
        have rw1 : Row W g 67 #[.int .u32 (0 : Nat), .int .u32 (1 : Nat), .func (.func 75) #[] #[], .func (.func 75) #[] #[]] := by rw [hW]; exact Row.new' 67 _ eg
        have s0 : W.cell? ⟨g, 0, none⟩ = some (.int .u32 0) := rw1.cell 0
        have s1 : W.cell? ⟨g, 1, none⟩ = some (.int .u32 1) := rw1.cell 1
        have s3 : W.cell? ⟨g, 3, none⟩ = some (.func (.func 75) #[] #[]) := rw1.cell 3
        have HBW := Lib.hid (show Below w1.heap.size w1 W by rw [hW]; exact HB.out.alloc HB.out.size _)
        have HW := Lib.hid hW
        have EG := Lib.hid eg
        clear st st' a3 CQ hpx hpy tq h xl yl hW eg rw1
        go_wp2_with (first | ((with_reducible show wpList _ _ _ (Oper.mk _ (Op.alloc _) _ _ _ _ :: _) _ _); refine wpList_new_row rfl rfl 67 11 (.tmp 34) rfl rfl rfl rfl g EG.out #[.int .u32 (0 : Nat), .int .u32 (1 : Nat), .func (.func 75) #[] #[], .func (.func 75) #[] #[]] rfl rfl _ Tryd.z67 Tryd.n67 rfl (one_qrow _ _ _) ?_; refine wpList_atE HW.out ?_))
        refine (CALL.out W).mono ?_
        rintro e w2 ⟨rfl, rfl⟩
        go_wp2_with fail
        go_quiet (fail)
        go_wp2_with fail
        go_roundw
        case rel => exact ⟨j + 1, px + t * 0, py + t * 1, HJ.out, by first | rfl | go_num, by first | rfl | go_num, by first | rfl | go_num, EN.out, below_drewN HBW.out _⟩
        case measure => have := HJ.out; simp [intOf] <;> omega
      · rw [h] at st a3
        have st' : pnt (j + 1) (i % 4 ^ (j + 1)) = (x + t, y + t) := st
        have a3' : bits BinOp.and IntKind.u64 (d : Int) 3 = 2 := a3
        obtain ⟨px, hpx⟩ : ∃ px : Nat, px = x := ⟨_, rfl⟩
        obtain ⟨py, hpy⟩ : ∃ py : Nat, py = y := ⟨_, rfl⟩
        have CQ : ∀ W, Calls Tryd.prog 75 #[.int .u32 t, .int .u32 x, .int .u32 y] W fun e w' => e = .returned (.tuple #[.int .u32 px, .int .u32 py]) ∧ w' = W := by
          rw [hpx, hpy]; exact fun W => same_any t x y W 
        have CALL := Lib.hid CQ
        have plx : px < t := by omega
        have ply : py < t := by omega
        have EN := Lib.hid (show pnt (j + 1) (i % 4 ^ (j + 1)) = (px + t * 1, py + t * 1) by rw [st']; congr 1 <;> omega)
        have tq := TW.out.2 2 (by decide)
        have r0 : wr.cell? ⟨0, 8, none⟩ = some (.int .u32 1) := tq.1
        have r1 : wr.cell? ⟨0, 9, none⟩ = some (.int .u32 1) := tq.2.1
        have r2 : wr.cell? ⟨0, 10, none⟩ = some (.func (.func 75) #[] #[]) := tq.2.2.1
        have r3 : wr.cell? ⟨0, 11, none⟩ = some (.func (.func 75) #[] #[]) := tq.2.2.2
        obtain ⟨g, eg⟩ : ∃ g, g = wr.heap.size := ⟨_, rfl⟩
        obtain ⟨W, hW⟩ : ∃ W, W = wr.alloc (.cells #[.int .u32 (1 : Nat), .int .u32 (1 : Nat), .func (.func 75) #[] #[], .func (.func 75) #[] #[]] 67) := ⟨_, rfl⟩
        have rw1 : Row W g 67 #[.int .u32 (1 : Nat), .int .u32 (1 : Nat), .func (.func 75) #[] #[], .func (.func 75) #[] #[]] := by rw [hW]; exact Row.new' 67 _ eg
        have s0 : W.cell? ⟨g, 0, none⟩ = some (.int .u32 1) := rw1.cell 0
        have s1 : W.cell? ⟨g, 1, none⟩ = some (.int .u32 1) := rw1.cell 1
        have s3 : W.cell? ⟨g, 3, none⟩ = some (.func (.func 75) #[] #[]) := rw1.cell 3
        have HBW := Lib.hid (show Below w1.heap.size w1 W by rw [hW]; exact HB.out.alloc HB.out.size _)
        have HW := Lib.hid hW
        have EG := Lib.hid eg
        clear st st' a3 CQ hpx hpy tq h xl yl hW eg rw1
        go_wp2_with (first | ((with_reducible show wpList _ _ _ (Oper.mk _ (Op.alloc _) _ _ _ _ :: _) _ _); refine wpList_new_row rfl rfl 67 11 (.tmp 34) rfl rfl rfl rfl g EG.out #[.int .u32 (1 : Nat), .int .u32 (1 : Nat), .func (.func 75) #[] #[], .func (.func 75) #[] #[]] rfl rfl _ Tryd.z67 Tryd.n67 rfl (one_qrow _ _ _) ?_; refine wpList_atE HW.out ?_))
        refine (CALL.out W).mono ?_
        rintro e w2 ⟨rfl, rfl⟩
        go_wp2_with fail
        go_quiet (fail)
        go_wp2_with fail
        go_roundw
        case rel => exact ⟨j + 1, px + t * 1, py + t * 1, HJ.out, by first | rfl | go_num, by first | rfl | go_num, by first | rfl | go_num, EN.out, below_drewN HBW.out _⟩
        case measure => have := HJ.out; simp [intOf] <;> omega
      · rw [h] at st a3
        have st' : pnt (j + 1) (i % 4 ^ (j + 1)) = (2 * t - 1 - y, t - 1 - x) := st
        have a3' : bits BinOp.and IntKind.u64 (d : Int) 3 = 3 := a3
        obtain ⟨px, hpx⟩ : ∃ px : Nat, px = (t - 1 - y) := ⟨_, rfl⟩
        obtain ⟨py, hpy⟩ : ∃ py : Nat, py = (t - 1 - x) := ⟨_, rfl⟩
        have CQ : ∀ W, Calls Tryd.prog 76 #[.int .u32 t, .int .u32 x, .int .u32 y] W fun e w' => e = .returned (.tuple #[.int .u32 px, .int .u32 py]) ∧ w' = W := by
          rw [hpx, hpy]; exact fun W => turned_any t x y W (by omega) xl yl
        have CALL := Lib.hid CQ
        have plx : px < t := by omega
        have ply : py < t := by omega
        have EN := Lib.hid (show pnt (j + 1) (i % 4 ^ (j + 1)) = (px + t * 1, py + t * 0) by rw [st']; congr 1 <;> omega)
        have tq := TW.out.2 3 (by decide)
        have r0 : wr.cell? ⟨0, 12, none⟩ = some (.int .u32 1) := tq.1
        have r1 : wr.cell? ⟨0, 13, none⟩ = some (.int .u32 0) := tq.2.1
        have r2 : wr.cell? ⟨0, 14, none⟩ = some (.func (.func 76) #[] #[]) := tq.2.2.1
        have r3 : wr.cell? ⟨0, 15, none⟩ = some (.func (.func 76) #[] #[]) := tq.2.2.2
        obtain ⟨g, eg⟩ : ∃ g, g = wr.heap.size := ⟨_, rfl⟩
        obtain ⟨W, hW⟩ : ∃ W, W = wr.alloc (.cells #[.int .u32 (1 : Nat), .int .u32 (0 : Nat), .func (.func 76) #[] #[], .func (.func 76) #[] #[]] 67) := ⟨_, rfl⟩
        have rw1 : Row W g 67 #[.int .u32 (1 : Nat), .int .u32 (0 : Nat), .func (.func 76) #[] #[], .func (.func 76) #[] #[]] := by rw [hW]; exact Row.new' 67 _ eg
        have s0 : W.cell? ⟨g, 0, none⟩ = some (.int .u32 1) := rw1.cell 0
        have s1 : W.cell? ⟨g, 1, none⟩ = some (.int .u32 0) := rw1.cell 1
        have s3 : W.cell? ⟨g, 3, none⟩ = some (.func (.func 76) #[] #[]) := rw1.cell 3
        have HBW := Lib.hid (show Below w1.heap.size w1 W by rw [hW]; exact HB.out.alloc HB.out.size _)
        have HW := Lib.hid hW
        have EG := Lib.hid eg
        clear st st' a3 CQ hpx hpy tq h xl yl hW eg rw1
        go_wp2_with (first | ((with_reducible show wpList _ _ _ (Oper.mk _ (Op.alloc _) _ _ _ _ :: _) _ _); refine wpList_new_row rfl rfl 67 11 (.tmp 34) rfl rfl rfl rfl g EG.out #[.int .u32 (1 : Nat), .int .u32 (0 : Nat), .func (.func 76) #[] #[], .func (.func 76) #[] #[]] rfl rfl _ Tryd.z67 Tryd.n67 rfl (one_qrow _ _ _) ?_; refine wpList_atE HW.out ?_))
        refine (CALL.out W).mono ?_
        rintro e w2 ⟨rfl, rfl⟩
        go_wp2_with fail
        go_quiet (fail)
        go_wp2_with fail
        go_roundw
        case rel => exact ⟨j + 1, px + t * 1, py + t * 0, HJ.out, by first | rfl | go_num, by first | rfl | go_num, by first | rfl | go_num, EN.out, below_drewN HBW.out _⟩
        case measure => have := HJ.out; simp [intOf] <;> omega
end Go.Proofs.YtnpkbjekodjcjaaDoor
