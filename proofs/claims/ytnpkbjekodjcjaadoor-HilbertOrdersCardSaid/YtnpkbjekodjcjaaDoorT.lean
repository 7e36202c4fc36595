/- The contracts of the comparisons Same and SameInts. -/
import Derived.Test.YtnpkbjekodjcjaaDoorS
import Derived.Laws.StructEq
import Derived.ChangeKeysEq
set_option linter.all false
namespace Go.Proofs.YtnpkbjekodjcjaaDoor
open Go.RowKit Go.Fen Hil
set_option linter.unusedVariables false
set_option maxHeartbeats 4000000

theorem sameInts_any (a1 a2 : Option Addr) (L1 L2 : List Int) (n1 n2 c1 c2 : Nat) (w : World) (e1 : n1 = L1.length) (e2 : n2 = L2.length) (h1 : n1 ≤ 1000000) (M1 : IntsM w a1 L1) (M2 : IntsM w a2 L2) :
    Calls Tryd.prog 20 #[.slice a1 n1 c1, .slice a2 n2 c2] w fun e w' => e = .returned (.bool (decide (L1 = L2))) ∧ ∃ q, w' = w.drewN q := by
  by_cases hl : n1 = n2
  · subst hl
    have fin := Lib.hid (show (∀ i, i < n1 → L1.getD i 0 = L2.getD i 0) → decide (L1 = L2) = true from fun h => decide_eq_true (List.ext_getElem (by omega) fun i h1 h2 => by
      have := h i (by omega)
      simpa [List.getD, h1, h2] using this))
    have fne := Lib.hid (show ∀ i, i < n1 → L1.getD i 0 ≠ L2.getD i 0 → decide (L1 = L2) = false from fun i hi hne => decide_eq_false (fun e => hne (by rw [e])))
    have H1 := Lib.hid M1
    have H2 := Lib.hid M2
    have E1 := Lib.hid e1
    have E2 := Lib.hid e2
    obtain ⟨r, hr⟩ : ∃ r, r = decide (L1 = L2) := ⟨_, rfl⟩
    rw [← hr]
    have HR := Lib.hid hr
    clear hr M1 M2 e1 e2
    go_enter Tryd.func20, Tryd.ntmps20
    go_wp2_with fail
    go_loopw [5] (fun iv wr => ∃ i q : Nat, i ≤ n1 ∧ iv = .int .i64 i ∧ (∀ j, j < i → L1.getD j 0 = L2.getD j 0) ∧ wr = w.drewN q) (fun iv _ => n1 - (intOf iv).toNat)
    case atStart => exact ⟨0, 0, by omega, rfl, fun j hj => by omega, rfl⟩
    case round =>
      obtain ⟨i, q, hi, rfl, hall, rfl⟩ := hrel
      by_cases hin : i < n1
      · have ii : (i : Int) < (n1 : Int) := by omega
        obtain ⟨g1, o1, ea1, _, hc1⟩ : ∃ g o, a1 = some ⟨g, o, none⟩ ∧ g < w.heap.size ∧ ∀ i, i < L1.length → w.cell? ⟨g, o + i, none⟩ = some (.int .i64 (L1.getD i 0)) := by
          rcases H1.out with ⟨_, h⟩ | h
          · have := E1.out; omega
          · exact h
        obtain ⟨g2, o2, ea2, _, hc2⟩ : ∃ g o, a2 = some ⟨g, o, none⟩ ∧ g < w.heap.size ∧ ∀ i, i < L2.length → w.cell? ⟨g, o + i, none⟩ = some (.int .i64 (L2.getD i 0)) := by
          rcases H2.out with ⟨_, h⟩ | h
          · have := E2.out; omega
          · exact h
        subst ea1 ea2
        have x1 := hc1 i (by rw [← E1.out]; exact hin)
        have x2 := hc2 i (by rw [← E2.out]; exact hin)
        have HA := Lib.hid hall
        have HIN := Lib.hid hin
        obtain ⟨u, hu⟩ : ∃ u, u = L1.getD i 0 := ⟨_, rfl⟩
        obtain ⟨v, hv⟩ : ∃ v, v = L2.getD i 0 := ⟨_, rfl⟩
        rw [← hu] at x1
        rw [← hv] at x2
        by_cases huv : u = v
        · have st := Lib.hid (show L1.getD i 0 = L2.getD i 0 by rw [← hu, ← hv, huv])
          subst huv
          clear hc1 hc2 hall hin hu hv hi
          go_wp2_with fail
          go_quiet (fail)
          go_wp2_with fail
          go_roundw
          case rel => exact ⟨i + 1, q + nq, HIN.out, by go_num, fun j hj => by
            by_cases e : j = i
            · rw [e]; exact st.out
            · exact HA.out j (by omega), by first | rfl | rw [World.drewN_drewN]⟩
          case measure => have := HIN.out; simp [intOf] <;> omega
        · have rf : Hid (false = r) := Lib.hid (by rw [HR.out, fne.out i hin (by rw [← hu, ← hv]; exact huv)])
          have bq : (u == v) = false := beq_eq_false_iff_ne.2 huv
          clear hc1 hc2 hall hin hu hv hi
          go_wp2_with fail
          go_quiet (fail)
          go_wp2_with fail
          go_ret
          exact ⟨by rw [← rf.out]; rfl, q + nq, by first | rfl | rw [World.drewN_drewN]⟩
      · obtain rfl : i = n1 := by omega
        have ii : ¬ (i : Int) < (i : Int) := by omega
        have rt : Hid (true = r) := Lib.hid (by rw [HR.out, fin.out hall])
        clear hall
        go_wp2_with fail
        go_ret
        exact ⟨by rw [← rt.out]; rfl, q, rfl⟩
  · have rf : decide (L1 = L2) = false := decide_eq_false (fun e => hl (by rw [e1, e2, e]))
    have b : ((n1 : Int) == (n2 : Int)) = false := beq_eq_false_iff_ne.2 (by omega)
    rw [rf]
    clear rf e1 e2
    go_enter Tryd.func20, Tryd.ntmps20
    go_wp2_with fail
    go_ret
    exact ⟨rfl, 0, rfl⟩
theorem Tryd.size24 (w : World) : (Go.sizeOf 24).run Tryd.prog w = .ok 1 w := by kernel_rfl
theorem run_equal58 (a b c d : Int) (w : World) : (Op.equalIn 10000 58 (.agg #[.int .u64 a, .int .u64 b]) (.agg #[.int .u64 c, .int .u64 d])).run Tryd.prog w = .ok (a == c && b == d) w := by
  have h1 := fun (x y : Int) => run_equalIn_int (P := Tryd.prog) w 9998 24 .u64 .u64 x y Tryd.underlying24
  rw [show (10000 : Nat) = 9999 + 1 from rfl]
  unfold Op.equalIn
  simp only [Sem.run_bind, run_underlying Tryd.underlying58, Result.andThen_ok, Tryd.size24]
  have hp : Tryd.prog.plainKey 24 = true := by kernel_rfl
  have p0 := fun (x y : Int) w => run_part_plain (P := Tryd.prog) (w := w) hp (xs := #[.int .u64 x, .int .u64 y]) (off := 0) (v := .int .u64 x) rfl
  have p1 := fun (x y : Int) w => run_part_plain (P := Tryd.prog) (w := w) hp (xs := #[.int .u64 x, .int .u64 y]) (off := 1) (v := .int .u64 y) rfl
  have e1 := fun (x y : Int) w => run_equalIn_int (P := Tryd.prog) w 9998 24 .u64 .u64 x y Tryd.underlying24
  simp
  rw [show List.range' 0 2 = [0, 1] from rfl]
  simp only [List.forIn_cons, List.forIn_nil, Sem.run_bind, p0, p1, Result.andThen_ok, e1]
  by_cases h1 : a = c <;> by_cases h2 : b = d <;> simp [h1, h2, p1, e1]
theorem run_neq58 (a b c d : Int) (w : World) : (binOp .neq 58 (.agg #[.int .u64 a, .int .u64 b]) (.agg #[.int .u64 c, .int .u64 d])).run Tryd.prog w = .ok (.bool (!(a == c && b == d))) w := by
  rw [run_neq_struct, run_equal58]
  rfl
theorem guard58 : Tryd.prog.eqGuardType Tryd.prog.depth 58 = false := by kernel_rfl

/-- the two cells of a range -/
def rcell (p : Nat × Nat) : List Value := [.int .u64 p.1, .int .u64 p.2]
/-- a slice of ranges lies in memory -/
def RgsM (w : World) (a : Option Addr) (L : List (Nat × Nat)) : Prop := (a = none ∧ L.length = 0) ∨ ∃ g o, a = some ⟨g, o, none⟩ ∧ g < w.heap.size ∧ ∀ i, i < L.length → w.rangeAt g (o + i * 2) (rcell (L.getD i (0, 0)))
theorem RgsM.below {w w' : World} {B : Nat} {a : Option Addr} {L : List (Nat × Nat)} (h : RgsM w a L) (hb : Below B w w') (hB : w.heap.size ≤ B) : RgsM w' a L := by
  rcases h with h | ⟨g, o, ea, hg, hc⟩
  · exact .inl h
  · exact .inr ⟨g, o, ea, Nat.lt_of_lt_of_le hg hb.size, fun i hi => range_below (hc i hi) hb (Nat.lt_of_lt_of_le hg hB)⟩

theorem sameR_any (a1 a2 : Option Addr) (L1 L2 : List (Nat × Nat)) (n1 n2 c1 c2 : Nat) (w : World) (e1 : n1 = L1.length) (e2 : n2 = L2.length) (h1 : n1 ≤ 1000000) (M1 : RgsM w a1 L1) (M2 : RgsM w a2 L2) :
    Calls Tryd.prog 24 #[.slice a1 n1 c1, .slice a2 n2 c2] w fun e w' => e = .returned (.bool (decide (L1 = L2))) ∧ ∃ q, w' = w.drewN q := by
  by_cases hl : n1 = n2
  · subst hl
    have fin := Lib.hid (show (∀ i, i < n1 → L1.getD i (0, 0) = L2.getD i (0, 0)) → decide (L1 = L2) = true from fun h => decide_eq_true (List.ext_getElem (by omega) fun i h1 h2 => by
      have := h i (by omega)
      simpa [List.getD, h1, h2] using this))
    have fne := Lib.hid (show ∀ i, i < n1 → L1.getD i (0, 0) ≠ L2.getD i (0, 0) → decide (L1 = L2) = false from fun i hi hne => decide_eq_false (fun e => hne (by rw [e])))
    have H1 := Lib.hid M1
    have H2 := Lib.hid M2
    have E1 := Lib.hid e1
    have E2 := Lib.hid e2
    obtain ⟨r, hr⟩ : ∃ r, r = decide (L1 = L2) := ⟨_, rfl⟩
    rw [← hr]
    have HR := Lib.hid hr
    clear hr M1 M2 e1 e2
    go_enter Tryd.func24, Tryd.ntmps24
    go_wp2_with fail
    go_loopw [5] (fun iv wr => ∃ i q : Nat, i ≤ n1 ∧ iv = .int .i64 i ∧ (∀ j, j < i → L1.getD j (0, 0) = L2.getD j (0, 0)) ∧ wr = w.drewN q) (fun iv _ => n1 - (intOf iv).toNat)
    case atStart => exact ⟨0, 0, by omega, rfl, fun j hj => by omega, rfl⟩
    case round =>
      obtain ⟨i, q, hi, rfl, hall, rfl⟩ := hrel
      by_cases hin : i < n1
      · have ii : (i : Int) < (n1 : Int) := by omega
        obtain ⟨g1, o1, ea1, _, hc1⟩ : ∃ g o, a1 = some ⟨g, o, none⟩ ∧ g < w.heap.size ∧ ∀ i, i < L1.length → w.rangeAt g (o + i * 2) (rcell (L1.getD i (0, 0))) := by
          rcases H1.out with ⟨_, h⟩ | h
          · have := E1.out; omega
          · exact h
        obtain ⟨g2, o2, ea2, _, hc2⟩ : ∃ g o, a2 = some ⟨g, o, none⟩ ∧ g < w.heap.size ∧ ∀ i, i < L2.length → w.rangeAt g (o + i * 2) (rcell (L2.getD i (0, 0))) := by
          rcases H2.out with ⟨_, h⟩ | h
          · have := E2.out; omega
          · exact h
        subst ea1 ea2
        have x1 := hc1 i (by rw [← E1.out]; exact hin)
        have x2 := hc2 i (by rw [← E2.out]; exact hin)
        have HA := Lib.hid hall
        have HIN := Lib.hid hin
        obtain ⟨u, hu⟩ : ∃ u, u = L1.getD i (0, 0) := ⟨_, rfl⟩
        obtain ⟨v, hv⟩ : ∃ v, v = L2.getD i (0, 0) := ⟨_, rfl⟩
        rw [← hu] at x1
        rw [← hv] at x2
        obtain ⟨ua, ub⟩ := u
        obtain ⟨va, vb⟩ := v
        have y1 : w.cell? ⟨g1, o1 + i * 2, none⟩ = some (.int .u64 ua) := x1 0 _ rfl
        have y2 : w.cell? ⟨g1, o1 + i * 2 + 1, none⟩ = some (.int .u64 ub) := x1 1 _ rfl
        have y3 : w.cell? ⟨g2, o2 + i * 2, none⟩ = some (.int .u64 va) := x2 0 _ rfl
        have y4 : w.cell? ⟨g2, o2 + i * 2 + 1, none⟩ = some (.int .u64 vb) := x2 1 _ rfl
        clear x1 x2
        by_cases huv : (ua, ub) = (va, vb)
        · have st := Lib.hid (show L1.getD i (0, 0) = L2.getD i (0, 0) by rw [← hu, ← hv, huv])
          obtain ⟨rfl, rfl⟩ : ua = va ∧ ub = vb := by injection huv with a b; exact ⟨a, b⟩
          have NE := fun w => run_neq58 ua ub ua ub w
          simp only [beq_self_eq_true, Bool.and_self, Bool.not_true] at NE
          have GU := fun x y (w : World) => run_eqGuard_agg (P := Tryd.prog) w .neq 58 x y #[.int .u64 ua, .int .u64 ub] #[.int .u64 ua, .int .u64 ub] guard58
          clear hc1 hc2 hall hin hu hv hi
          go_wp2_with fail
          go_quiet (fail)
          go_wp2_with fail
          go_roundw
          case rel => exact ⟨i + 1, q + nq, HIN.out, by go_num, fun j hj => by
            by_cases e : j = i
            · rw [e]; exact st.out
            · exact HA.out j (by omega), by first | rfl | rw [World.drewN_drewN]⟩
          case measure => have := HIN.out; simp [intOf] <;> omega
        · have rf : Hid (false = r) := Lib.hid (by rw [HR.out, fne.out i hin (by rw [← hu, ← hv]; exact huv)])
          have bq : ((ua : Int) == (va : Int) && (ub : Int) == (vb : Int)) = false := by
            rw [Bool.eq_false_iff]
            intro h
            simp only [Bool.and_eq_true, beq_iff_eq] at h
            exact huv (by congr 1 <;> omega)
          have NE := fun w => run_neq58 ua ub va vb w
          simp only [bq, Bool.not_false] at NE
          have GU := fun x y (w : World) => run_eqGuard_agg (P := Tryd.prog) w .neq 58 x y #[.int .u64 ua, .int .u64 ub] #[.int .u64 va, .int .u64 vb] guard58
          clear hc1 hc2 hall hin hu hv hi
          go_wp2_with fail
          go_quiet (fail)
          go_wp2_with fail
          go_ret
          exact ⟨by rw [← rf.out]; rfl, q + nq, by first | rfl | rw [World.drewN_drewN]⟩
      · obtain rfl : i = n1 := by omega
        have ii : ¬ (i : Int) < (i : Int) := by omega
        have rt : Hid (true = r) := Lib.hid (by rw [HR.out, fin.out hall])
        clear hall
        go_wp2_with fail
        go_ret
        exact ⟨by rw [← rt.out]; rfl, q, rfl⟩
  · have rf : decide (L1 = L2) = false := decide_eq_false (fun e => hl (by rw [e1, e2, e]))
    have b : ((n1 : Int) == (n2 : Int)) = false := beq_eq_false_iff_ne.2 (by omega)
    rw [rf]
    clear rf e1 e2
    go_enter Tryd.func24, Tryd.ntmps24
    go_wp2_with fail
    go_ret
    exact ⟨rfl, 0, rfl⟩
end Go.Proofs.YtnpkbjekodjcjaaDoor
