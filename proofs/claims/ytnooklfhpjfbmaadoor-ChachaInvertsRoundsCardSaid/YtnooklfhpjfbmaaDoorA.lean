/- The contracts of the small functions of package chacha and of its reference. -/
import Derived.Test.YtnooklfhpjfbmaaDoorRows
import Derived.Test.YtnooklfhpjfbmaaDoorKit
import Derived.Deep.QuietTactic
import Derived.BigQuiet
import Derived.Outline
import Derived.Deep.RegionWith
set_option linter.all false
namespace Go.Proofs.YtnooklfhpjfbmaaDoor
open Go.RowKit Go.Fen
set_option linter.unusedVariables false
set_option maxHeartbeats 400000

theorem rot_any (x : BitVec 32) (k : Nat) (hk : k ≤ 31) (w : World) :
    Calls Tryd.prog 21 #[.int .u32 x.toNat, .int .i64 k] w fun e w' => e = .returned (.int .u32 (x.rotateLeft k).toNat) ∧ w = w' := by
  have hx := x.isLt
  have h31 : bits BinOp.and IntKind.u64 (k : Int) 31 = (k : Int) := by
    rw [u64_and _ _ (by omega) (by omega) (by omega) (by omega)]
    rw [show ((31 : Int).toNat) = 31 from rfl, nat_mask5, Int.toNat_natCast]
    omega
  have H := Lib.hid (rotl_bv x k hk)
  go_enter Tryd.func21, Tryd.ntmps21
  go_wp2
  go_ret
  exact ⟨ret_int H.out, rfl⟩

theorem rotate_any (x : BitVec 32) (k : Nat) (hk : k ≤ 31) (w : World) :
    Calls Tryd.prog 19 #[.int .u32 x.toNat, .int .i64 k] w fun e w' => e = .returned (.int .u32 (x.rotateLeft k).toNat) ∧ ∃ n, w' = w.drewN n := by
  have hx := x.isLt
  have H := Lib.hid (rotl_bv x k hk)
  go_enter Tryd.func19, Tryd.ntmps19
  go_wp2
  go_quiet (fail)
  go_wp2
  go_ret
  exact ⟨ret_int H.out, nq, rfl⟩

theorem word_any (g o l c : Nat) (b0 b1 b2 b3 : BitVec 8) (w : World) (hl : 4 ≤ l)
    (h0 : w.cell? ⟨g, o, none⟩ = some (.int .u8 b0.toNat)) (h1 : w.cell? ⟨g, o + 1, none⟩ = some (.int .u8 b1.toNat))
    (h2 : w.cell? ⟨g, o + 2, none⟩ = some (.int .u8 b2.toNat)) (h3 : w.cell? ⟨g, o + 3, none⟩ = some (.int .u8 b3.toNat)) :
    Calls Tryd.prog 20 #[.slice (some ⟨g, o, none⟩) l c] w fun e w' => e = .returned (.int .u32 (wordOf b0 b1 b2 b3).toNat) ∧ ∃ n, w' = w.drewN n := by
  have l0 : (0 : Int) < (l : Int) := by omega
  have l1 : (1 : Int) < (l : Int) := by omega
  have l2 : (2 : Int) < (l : Int) := by omega
  have l3 : (3 : Int) < (l : Int) := by omega
  have := b0.isLt; have := b1.isLt; have := b2.isLt; have := b3.isLt
  go_enter Tryd.func20, Tryd.ntmps20
  go_wp2
  go_quiet (fail)
  go_wp2
  go_ret
  exact ⟨ret_int (word_bits b0 b1 b2 b3), nq, rfl⟩

theorem rword_any (g o l c : Nat) (b0 b1 b2 b3 : BitVec 8) (w : World) (hl : 4 ≤ l)
    (h0 : w.cell? ⟨g, o, none⟩ = some (.int .u8 b0.toNat)) (h1 : w.cell? ⟨g, o + 1, none⟩ = some (.int .u8 b1.toNat))
    (h2 : w.cell? ⟨g, o + 2, none⟩ = some (.int .u8 b2.toNat)) (h3 : w.cell? ⟨g, o + 3, none⟩ = some (.int .u8 b3.toNat)) :
    Calls Tryd.prog 18 #[.slice (some ⟨g, o, none⟩) l c] w fun e w' => e = .returned (.int .u32 (wordOf b0 b1 b2 b3).toNat) ∧ ∃ n, w' = w.drewN n := by
  have l0 : (0 : Int) < (l : Int) := by omega
  have l1 : (1 : Int) < (l : Int) := by omega
  have l2 : (2 : Int) < (l : Int) := by omega
  have l3 : (3 : Int) < (l : Int) := by omega
  have := b0.isLt; have := b1.isLt; have := b2.isLt; have := b3.isLt
  have H := Lib.hid (word_sum b0 b1 b2 b3)
  go_enter Tryd.func18, Tryd.ntmps18
  go_wp2
  go_quiet (fail)
  go_wp2
  go_ret
  exact ⟨ret_int H.out, nq, rfl⟩

theorem mix_any (g a b d : Nat) (T : TypeId) (k : Nat) (l : List (BitVec 32)) (ha : a < l.length) (hb : b < l.length) (hd : d < l.length) (hab : a ≠ b) (had : a ≠ d) (hbd : b ≠ d) (hk : k ≤ 31) (w : World)
    (hrow : Row w g T (wcells l)) :
    Calls Tryd.prog 17 #[.pointer (some ⟨g, a, none⟩), .pointer (some ⟨g, b, none⟩), .pointer (some ⟨g, d, none⟩), .int .i64 k] w fun e w' =>
      e = .returned (.tuple #[]) ∧ w.grownBy w' (some g) ∧ Row w' g T (wcells (mixL l a b d k)) := by
  have ca := (hrow.cell a).trans (get_wcells l a ha)
  have cb := (hrow.cell b).trans (get_wcells l b hb)
  have cd := (hrow.cell d).trans (get_wcells l d hd)
  have fa := hrow.frozen a
  have fd := hrow.frozen d
  have hs := u32_add_bv (l.getD a 0#32) (l.getD b 0#32)
  have hx := u32_xor_bv (l.getD d 0#32) (l.getD a 0#32 + l.getD b 0#32)
  have hr : ∀ w, Calls Tryd.prog 21 #[.int .u32 (l.getD d 0#32 ^^^ (l.getD a 0#32 + l.getD b 0#32)).toNat, .int .i64 k] w fun e w' => e = .returned (.int .u32 ((l.getD d 0#32 ^^^ (l.getD a 0#32 + l.getD b 0#32)).rotateLeft k).toNat) ∧ w = w' := fun w => rot_any _ _ hk w
  have hm : mixL l a b d k = (l.set a (l.getD a 0#32 + l.getD b 0#32)).set d ((l.getD d 0#32 ^^^ (l.getD a 0#32 + l.getD b 0#32)).rotateLeft k) := rfl
  generalize l.getD a 0#32 + l.getD b 0#32 = u at *
  generalize l.getD d 0#32 ^^^ u = v at *
  generalize v.rotateLeft k = r at *
  generalize l.getD a 0#32 = xa at *
  generalize l.getD b 0#32 = xb at *
  generalize l.getD d 0#32 = xd at *
  have Hm := Lib.hid hm
  clear hm
  have Hr := Lib.hid hr
  clear hr
  have Hrow := Lib.hid hrow
  clear hrow
  go_enter Tryd.func17, Tryd.ntmps17
  go_wp2
  go_region
  go_wp2
  go_region_with (go_at_call 21; refine (Hr.out _).mono ?_; rintro e w' ⟨rfl, rfl⟩)
  all_goals
    go_wp2
    go_end0
    refine ⟨rfl, ?_, ?_⟩
    · exact grown_drew (grown_drew (grown_set (grown_set (grown_refl _ _) _ _) _ _))
    · rw [Hm.out, ← set_wcells, ← set_wcells]
      exact (((Hrow.out).set a _).set d _).drew.drew
end Go.Proofs.YtnooklfhpjfbmaaDoor
