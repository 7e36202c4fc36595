/- The contracts of at and of the search that it calls. -/
import Derived.Test.YtnpkbjekodjcjaaDoorA
set_option linter.all false
namespace Go.Proofs.YtnpkbjekodjcjaaDoor
open Go.RowKit Go.Fen Hil
set_option linter.unusedVariables false
set_option maxHeartbeats 400000

/-- the quarter of a point -/
def qn (u v : Nat) : Nat := if u = 0 then (if v = 0 then 0 else 1) else if v = 0 then 3 else 2

theorem qn_spec (u v : Nat) (hu : u < 2) (hv : v < 2) : qn u v < 4 ∧ qx (qn u v) = u ∧ qy (qn u v) = v ∧ ∀ j, j < qn u v → ¬ (qx j = u ∧ qy j = v) := by
  have : (u = 0 ∨ u = 1) ∧ (v = 0 ∨ v = 1) := by omega
  rcases this with ⟨rfl | rfl, rfl | rfl⟩ <;> refine ⟨by decide, by decide, by decide, ?_⟩
  · decide
  · decide
  · decide
  · decide

theorem indexq_any (bx bs bY x s y u v : Nat) (w : World) (hT : Tab w) (hs : 0 < s) (h32 : s ≤ 65536) (hx : x < 2 * s) (hy : y < 2 * s) (eu : u = x / s) (ev : v = y / s)
    (c1 : w.cell? ⟨bx, 0, none⟩ = some (.int .u32 x)) (c2 : w.cell? ⟨bs, 0, none⟩ = some (.int .u32 s)) (c3 : w.cell? ⟨bY, 0, none⟩ = some (.int .u32 y)) :
    Calls Tryd.prog 38 #[.slice (some ⟨0, 0, none⟩) 4 4, .func (.func 39) #[] #[.pointer (some ⟨bx, 0, none⟩), .pointer (some ⟨bs, 0, none⟩), .pointer (some ⟨bY, 0, none⟩)]] w fun e w' =>
      e = .returned (.int .i64 (qn u v)) ∧ Below w.heap.size w w' := by
  have u2 : u < 2 := by rw [eu]; exact Nat.div_lt_of_lt_mul (by omega)
  have v2 : v < 2 := by rw [ev]; exact Nat.div_lt_of_lt_mul (by omega)
  have Q := Lib.hid (qn_spec u v u2 v2)
  have l1 := block_lt_of_cell (a := ⟨bx, 0, none⟩) c1
  have l2 := block_lt_of_cell (a := ⟨bs, 0, none⟩) c2
  have l3 := block_lt_of_cell (a := ⟨bY, 0, none⟩) c3
  have PR := fun (q : Nat) (W : World) (f : Value) (hb : Below w.heap.size w W) => pred_any' (qx q) (qy q) bx bs bY x s y u v W hs h32 hx hy eu ev ((hb.cell (p := ⟨bx, 0, none⟩) l1).trans c1) ((hb.cell (p := ⟨bs, 0, none⟩) l2).trans c2) ((hb.cell (p := ⟨bY, 0, none⟩) l3).trans c3) f
  have HP := Lib.hid PR
  have HT := Lib.hid hT
  clear PR hT c1 c2 c3 eu ev l1 l2 l3 hx hy
  go_enter Tryd.func38, Tryd.ntmps38
  go_wp2_with fail
  go_loopw [5, 8] (fun _ iv wr => ∃ k : Nat, k ≤ qn u v ∧ iv = .int .i64 k ∧ Below w.heap.size w wr) (fun _ iv _ => 4 - (intOf iv).toNat)
  case atStart => exact ⟨0, by omega, rfl, Below.refl _ _⟩
  case round =>
    obtain ⟨k, hk, rfl, hb⟩ := hrel
    have hq := Q.out
    have hk4 : k < 4 := by omega
    have hr := (HT.out.below hb (Nat.le_refl _)).2 k hk4
    have HB := Lib.hid hb
    have HK := Lib.hid hk
    have call := HP.out k wr (qf k) hb
    have ki : (k : Int) < 4 := by omega
    by_cases e : k = qn u v
    · rw [decide_eq_true (by rw [e]; exact ⟨hq.2.1, hq.2.2.1⟩)] at call
      have E := Lib.hid e
      have CALL := Lib.hid call
      clear call hk hb hq e
      have : k = 0 ∨ k = 1 ∨ k = 2 ∨ k = 3 := by omega
      rcases this with rfl | rfl | rfl | rfl
      all_goals
        obtain ⟨r0, r1, r2, r3⟩ := hr
        simp only [Nat.reduceMul, Nat.reduceAdd, Nat.mul_zero, Nat.zero_add] at r0 r1 r2 r3
        go_wp2_with fail
        refine CALL.out.mono ?_
        rintro e w' ⟨rfl, hb'⟩
        go_wp2_with fail
        go_ret
        exact ⟨by rw [← E.out]; rfl, HB.out.trans (hb'.mono HB.out.size)⟩
    · rw [decide_eq_false (hq.2.2.2 k (by omega))] at call
      have HN := Lib.hid (show k < qn u v by omega)
      have CALL := Lib.hid call
      clear call hk hb hq e
      have : k = 0 ∨ k = 1 ∨ k = 2 ∨ k = 3 := by omega
      rcases this with rfl | rfl | rfl | rfl
      all_goals
        obtain ⟨r0, r1, r2, r3⟩ := hr
        simp only [Nat.reduceMul, Nat.reduceAdd, Nat.mul_zero, Nat.zero_add] at r0 r1 r2 r3
        go_wp2_with fail
        refine CALL.out.mono ?_
        rintro e w' ⟨rfl, hb'⟩
        go_wp2_with fail
        go_roundw
        case rel => exact ⟨_, HN.out, by go_num, HB.out.trans (hb'.mono HB.out.size)⟩
        case measure => simp [intOf]
end Go.Proofs.YtnpkbjekodjcjaaDoor
