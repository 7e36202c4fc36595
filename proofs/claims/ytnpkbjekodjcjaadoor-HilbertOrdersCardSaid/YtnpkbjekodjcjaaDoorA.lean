/- The contracts of the small functions of package hilbert: right, the three maps, the choice of a quadrant. -/
import Derived.Test.YtnpkbjekodjcjaaDoorKit
import Derived.Test.YtnpkbjekodjcjaaDoorPl
import Derived.Deep.QuietTactic
import Derived.BigQuiet
import Derived.Outline
import Derived.Deep.RegionWith
set_option linter.all false
namespace Go.Proofs.YtnpkbjekodjcjaaDoor
open Go.RowKit Go.Fen Hil
set_option linter.unusedVariables false
set_option maxHeartbeats 400000

theorem right_any (k : Int) (w : World) : Calls Tryd.prog 26 #[.int .i64 k] w fun e w' => e = .returned (.bool (decide (1 ≤ k ∧ k ≤ 16))) ∧ w' = w := by
  by_cases h1 : 1 ≤ k
  · by_cases h2 : k ≤ 16
    · have d1 : decide (1 ≤ k) = true := decide_eq_true h1
      have d2 : decide (k ≤ 16) = true := decide_eq_true h2
      have H := Lib.hid (show decide (1 ≤ k ∧ k ≤ 16) = true from decide_eq_true ⟨h1, h2⟩)
      go_enter Tryd.func26, Tryd.ntmps26
      go_wp2
      go_ret
      exact ⟨by rw [H.out]; rfl, rfl⟩
    · have d1 : decide (1 ≤ k) = true := decide_eq_true h1
      have d2 : decide (k ≤ 16) = false := decide_eq_false h2
      have H := Lib.hid (show decide (1 ≤ k ∧ k ≤ 16) = false from decide_eq_false (by omega))
      go_enter Tryd.func26, Tryd.ntmps26
      go_wp2
      go_ret
      exact ⟨rfl, rfl⟩
  · have d1 : decide (1 ≤ k) = false := decide_eq_false h1
    have H := Lib.hid (show decide (1 ≤ k ∧ k ≤ 16) = false from decide_eq_false (by omega))
    go_enter Tryd.func26, Tryd.ntmps26
    go_wp2
    go_ret
    exact ⟨rfl, rfl⟩

theorem swapped_any (s x y : Nat) (w : World) : Calls Tryd.prog 74 #[.int .u32 s, .int .u32 x, .int .u32 y] w fun e w' => e = .returned (.tuple #[.int .u32 y, .int .u32 x]) ∧ w' = w := by
  go_enter Tryd.func74, Tryd.ntmps74
  go_wp2
  go_ret2
  exact ⟨rfl, rfl⟩

theorem same_any (s x y : Nat) (w : World) : Calls Tryd.prog 75 #[.int .u32 s, .int .u32 x, .int .u32 y] w fun e w' => e = .returned (.tuple #[.int .u32 x, .int .u32 y]) ∧ w' = w := by
  go_enter Tryd.func75, Tryd.ntmps75
  go_wp2
  go_ret2
  exact ⟨rfl, rfl⟩

theorem turned_any (s x y : Nat) (w : World) (hs : s ≤ 65536) (hx : x < s) (hy : y < s) : Calls Tryd.prog 76 #[.int .u32 s, .int .u32 x, .int .u32 y] w fun e w' => e = .returned (.tuple #[.int .u32 (s - 1 - y : Nat), .int .u32 (s - 1 - x : Nat)]) ∧ w' = w := by
  have H1 : ((s - 1 - y : Nat) : Int) = (s : Int) - 1 - y := by omega
  have H2 : ((s - 1 - x : Nat) : Int) = (s : Int) - 1 - x := by omega
  rw [H1, H2]
  clear H1 H2
  go_enter Tryd.func76, Tryd.ntmps76
  go_wp2
  go_ret2
  exact ⟨rfl, rfl⟩

/-- the quarters as the program lays them -/
def qf : Nat → Value
  | 0 => .func (.func 74) #[] #[]
  | 1 => .func (.func 75) #[] #[]
  | 2 => .func (.func 75) #[] #[]
  | _ => .func (.func 76) #[] #[]
def qx : Nat → Nat
  | 0 => 0
  | 1 => 0
  | _ => 1
def qy : Nat → Nat
  | 0 => 0
  | 1 => 1
  | 2 => 1
  | _ => 0
def qrow (q : Nat) : Array Value := #[.int .u32 (qx q), .int .u32 (qy q), qf q, qf q]
/-- The table lies in memory. -/
def Tab (w : World) : Prop := 0 < w.heap.size ∧ ∀ q, q < 4 → w.cell? ⟨0, 4 * q, none⟩ = some (.int .u32 (qx q)) ∧ w.cell? ⟨0, 4 * q + 1, none⟩ = some (.int .u32 (qy q)) ∧ w.cell? ⟨0, 4 * q + 2, none⟩ = some (qf q) ∧ w.cell? ⟨0, 4 * q + 3, none⟩ = some (qf q)
theorem Tab.below {w w' : World} (h : Tab w) {B : Nat} (hb : Below B w w') (hB : w.heap.size ≤ B) : Tab w' := by
  have h0 := h.1
  refine ⟨Nat.lt_of_lt_of_le h0 hb.size, fun q hq => ?_⟩
  have := h.2 q hq
  refine ⟨?_, ?_, ?_, ?_⟩
  · exact (hb.cell (p := ⟨0, 4 * q, none⟩) (Nat.lt_of_lt_of_le h0 hB)).trans this.1
  · exact (hb.cell (p := ⟨0, 4 * q + 1, none⟩) (Nat.lt_of_lt_of_le h0 hB)).trans this.2.1
  · exact (hb.cell (p := ⟨0, 4 * q + 2, none⟩) (Nat.lt_of_lt_of_le h0 hB)).trans this.2.2.1
  · exact (hb.cell (p := ⟨0, 4 * q + 3, none⟩) (Nat.lt_of_lt_of_le h0 hB)).trans this.2.2.2

theorem pred_any' (a b bx bs bY x s y u v : Nat) (w : World) (hs : 0 < s) (h32 : s ≤ 65536) (hx : x < 2 * s) (hy : y < 2 * s) (eu : u = x / s) (ev : v = y / s)
    (c1 : w.cell? ⟨bx, 0, none⟩ = some (.int .u32 x)) (c2 : w.cell? ⟨bs, 0, none⟩ = some (.int .u32 s)) (c3 : w.cell? ⟨bY, 0, none⟩ = some (.int .u32 y)) (f : Value) :
    Calls Tryd.prog 39 #[.agg #[.int .u32 a, .int .u32 b, f, f], .pointer (some ⟨bx, 0, none⟩), .pointer (some ⟨bs, 0, none⟩), .pointer (some ⟨bY, 0, none⟩)] w fun e w' =>
      e = .returned (.bool (decide (a = u ∧ b = v))) ∧ Below w.heap.size w w' := by
  have l1 := block_lt_of_cell (a := ⟨bx, 0, none⟩) c1
  have l2 := block_lt_of_cell (a := ⟨bs, 0, none⟩) c2
  have l3 := block_lt_of_cell (a := ⟨bY, 0, none⟩) c3
  have n1 : bx ≠ w.heap.size := Nat.ne_of_lt l1
  have n2 : bs ≠ w.heap.size := Nat.ne_of_lt l2
  have n3 : bY ≠ w.heap.size := Nat.ne_of_lt l3
  have HB := Lib.hid ((Below.refl w.heap.size w).alloc (Nat.le_refl _) (.cells #[.int .u32 a, .int .u32 b, f, f] 67))
  have s0 : ¬ s = 0 := by omega
  have u2 : u < 2 := by rw [eu]; exact Nat.div_lt_of_lt_mul (by omega)
  have v2 : v < 2 := by rw [ev]; exact Nat.div_lt_of_lt_mul (by omega)
  have dx : (x : Int) / (s : Int) = (u : Int) := by rw [eu]; simp
  have dy : (y : Int) / (s : Int) = (v : Int) := by rw [ev]; simp
  clear eu ev
  by_cases h1 : a = u
  · by_cases h2 : b = v
    · have H := Lib.hid (show decide (a = u ∧ b = v) = true from decide_eq_true ⟨h1, h2⟩)
      subst h1 h2
      go_enter Tryd.func39, Tryd.ntmps39
      go_wp2
      go_quiet (fail)
      go_wp2
      go_ret
      exact ⟨by rw [H.out]; rfl, below_drewN HB.out _⟩
    · have H := Lib.hid (show decide (a = u ∧ b = v) = false from decide_eq_false (fun h => h2 h.2))
      have h2' : ((b : Int) == (v : Int)) = false := beq_eq_false_iff_ne.2 (by omega)
      subst h1
      go_enter Tryd.func39, Tryd.ntmps39
      go_wp2
      go_quiet (fail)
      go_wp2
      go_ret
      exact ⟨by rw [H.out]; rfl, below_drewN HB.out _⟩
  · have H := Lib.hid (show decide (a = u ∧ b = v) = false from decide_eq_false (fun h => h1 h.1))
    have h1' : ((a : Int) == (u : Int)) = false := beq_eq_false_iff_ne.2 (by omega)
    go_enter Tryd.func39, Tryd.ntmps39
    go_wp2
    go_quiet (fail)
    go_wp2
    go_ret
    exact ⟨by rw [H.out]; rfl, below_drewN HB.out _⟩
end Go.Proofs.YtnpkbjekodjcjaaDoor
