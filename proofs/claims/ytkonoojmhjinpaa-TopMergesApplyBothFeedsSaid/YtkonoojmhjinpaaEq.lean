/- Contracts of the comparisons of rows: slices.Equal at cells, lineage's equal, SameRow. -/
import Derived.Test.YtkonoojmhjinpaaK3
import Derived.Laws.StructEq
import Derived.ChangeKeysEq
set_option linter.all false
namespace Go.Proofs.Ytkonoojmhjinpaa
open Go.RowKit Go.Fen
set_option linter.unusedVariables false
set_option maxHeartbeats 4000000

/-- two cells, compared as the machine does -/
def eqc (x y : Cl) : Bool := x.id == y.id && (x.v.b == y.v.b && (x.v.n == y.v.n && x.v.s.toList == y.v.s.toList))
theorem toList_inj {a b : ByteArray} (h : a.toList = b.toList) : a = b := by
  rw [ByteArray.toList_eq, ByteArray.toList_eq] at h
  obtain ⟨⟨x⟩⟩ := a
  obtain ⟨⟨y⟩⟩ := b
  have h2 : x = y := h
  rw [h2]
theorem eqc_true {x y : Cl} (h : eqc x y = true) : x = y := by
  obtain ⟨i, b, n, s⟩ := x
  obtain ⟨i', b', n', s'⟩ := y
  simp only [eqc, Bool.and_eq_true, beq_iff_eq] at h
  obtain ⟨rfl, rfl, rfl, h⟩ := h
  rw [toList_inj h]
theorem eqc_refl (x : Cl) : eqc x x = true := by simp [eqc]
theorem eqc_false {x y : Cl} (h : x ≠ y) : eqc x y = false := by
  cases hq : eqc x y with
  | true => exact (h (eqc_true hq)).elim
  | false => rfl
instance decCl : DecidableEq Cl := fun x y => if h : eqc x y = true then .isTrue (eqc_true h) else .isFalse fun e => h (by rw [e]; exact eqc_refl _)
theorem part56 (a : Int) (b : Bool) (n : Int) (s : ByteArray) (w : World) : (part 56 #[.int .i64 a, .bool b, .int .i64 n, .string s] 1).run Try.prog w = .ok (.agg #[.bool b, .int .i64 n, .string s]) w := by
  have h1 : (Go.isAgg 56).run Try.prog w = .ok true w := by kernel_rfl
  have h2 : (Go.sizeOf 56).run Try.prog w = .ok 3 w := by kernel_rfl
  unfold part
  simp [h1, h2]
theorem plain3 : Try.prog.plainKey 3 = true := by kernel_rfl
theorem plain4 : Try.prog.plainKey 4 = true := by kernel_rfl
theorem plain2 : Try.prog.plainKey 2 = true := by kernel_rfl
theorem plain9 : Try.prog.plainKey 9 = true := by kernel_rfl
theorem run_equalCl (a : Int) (b : Bool) (n : Int) (s : ByteArray) (a' : Int) (b' : Bool) (n' : Int) (s' : ByteArray) (w : World) : (Op.equalIn 10000 58 (.agg #[.int .i64 a, .bool b, .int .i64 n, .string s]) (.agg #[.int .i64 a', .bool b', .int .i64 n', .string s'])).run Try.prog w = .ok (eqc ⟨a, b, n, s⟩ ⟨a', b', n', s'⟩) w := by
  rw [show (10000 : Nat) = 9999 + 1 from rfl, run_equalIn_struct w _ 58 _ _ (by rw [Program.fieldsOf, Try.underlying58]) (by kernel_rfl)]
  have e58 : (Try.prog.fieldsOf 58).toList = [{ name := "ID", type := 3, offset := 0, embedded := false, tag := "", pkgPath := "", byteOffset := 0 }, { name := "V", type := 56, offset := 1, embedded := false, tag := "", pkgPath := "", byteOffset := 8 }] := by rw [Program.fieldsOf, Try.underlying58]
  have e56 : (Try.prog.fieldsOf 56).toList = [{ name := "Null", type := 4, offset := 0, embedded := false, tag := "", pkgPath := "", byteOffset := 0 }, { name := "N", type := 2, offset := 1, embedded := false, tag := "", pkgPath := "", byteOffset := 8 }, { name := "S", type := 9, offset := 2, embedded := false, tag := "", pkgPath := "", byteOffset := 16 }] := by rw [Program.fieldsOf, Try.underlying56]
  rw [e58]
  have p0 := fun (xs : Array Value) (v : Value) (h : xs[0]? = some v) => run_part_plain (P := Try.prog) (w := w) plain3 h
  have q0 := fun (xs : Array Value) (v : Value) (h : xs[0]? = some v) => run_part_plain (P := Try.prog) (w := w) plain4 h
  have q1 := fun (xs : Array Value) (v : Value) (h : xs[1]? = some v) => run_part_plain (P := Try.prog) (w := w) plain2 h
  have q2 := fun (xs : Array Value) (v : Value) (h : xs[2]? = some v) => run_part_plain (P := Try.prog) (w := w) plain9 h
  have i3 := fun (x y : Int) => run_equalIn_int (P := Try.prog) w 9998 3 .i64 .i64 x y Try.underlying3
  have i2 := fun (x y : Int) => run_equalIn_int (P := Try.prog) w 9997 2 .i64 .i64 x y Try.underlying2
  have i4 := fun (x y : Bool) => run_equalIn_bool (P := Try.prog) w 9997 4 x y Try.underlying4
  have i9 := fun (x y : ByteArray) => run_equalIn_string (P := Try.prog) w 9997 9 x y Try.underlying9
  have s56 := fun (xs ys : Array Value) => run_equalIn_struct (P := Try.prog) w 9998 56 xs ys (by rw [Program.fieldsOf, Try.underlying56]) (by kernel_rfl)
  simp only [Nat.reduceAdd] at i3 i2 i4 i9 s56
  simp only [Op.eqFields, ne_eq, Sem.run_bind, Sem.run_pure, Sem.run_ite, Result.andThen_ok, part56, s56, e56, i3,
    p0 _ _ (show (#[Value.int .i64 a, .bool b, .int .i64 n, .string s] : Array Value)[0]? = some (Value.int .i64 a) from rfl), p0 _ _ (show (#[Value.int .i64 a', .bool b', .int .i64 n', .string s'] : Array Value)[0]? = some (Value.int .i64 a') from rfl),
    q0 _ _ (show (#[Value.bool b, .int .i64 n, .string s] : Array Value)[0]? = some (Value.bool b) from rfl), q0 _ _ (show (#[Value.bool b', .int .i64 n', .string s'] : Array Value)[0]? = some (Value.bool b') from rfl),
    q1 _ _ (show (#[Value.bool b, .int .i64 n, .string s] : Array Value)[1]? = some (Value.int .i64 n) from rfl), q1 _ _ (show (#[Value.bool b', .int .i64 n', .string s'] : Array Value)[1]? = some (Value.int .i64 n') from rfl),
    q2 _ _ (show (#[Value.bool b, .int .i64 n, .string s] : Array Value)[2]? = some (Value.string s) from rfl), q2 _ _ (show (#[Value.bool b', .int .i64 n', .string s'] : Array Value)[2]? = some (Value.string s') from rfl), i2, i4, i9]
  unfold eqc
  cases h1 : (a == a') <;> cases h2 : (b == b') <;> cases h3 : (n == n') <;> cases h4 : (s.toList == s'.toList) <;> simp [h1, h2, h3, h4]
theorem guard58 : Try.prog.eqGuardType Try.prog.depth 58 = false := by kernel_rfl
theorem run_neqCl (x y : Cl) (w : World) : (binOp .neq 58 (.agg #[.int .i64 x.id, .bool x.v.b, .int .i64 x.v.n, .string x.v.s]) (.agg #[.int .i64 y.id, .bool y.v.b, .int .i64 y.v.n, .string y.v.s])).run Try.prog w = .ok (.bool (!(eqc x y))) w := by
  rw [run_neq_struct, run_equalCl]
  rfl

theorem cells_any (a1 a2 : Option Addr) (L1 L2 : List Cl) (n1 n2 c1 c2 : Nat) (w : World) (e1 : n1 = L1.length) (e2 : n2 = L2.length) (h1 : n1 ≤ 1000000) (h2 : n2 ≤ 1000000) (M1 : Lt 58 4 clc w a1 L1) (M2 : Lt 58 4 clc w a2 L2) :
    Calls Try.prog 53 #[.slice a1 n1 c1, .slice a2 n2 c2] w fun e w' => e = .returned (.bool (decide (L1 = L2))) ∧ ∃ q, w' = w.drewN q := by
  by_cases hl : n1 = n2
  · subst hl
    have fin := Lib.hid (show (∀ i : Nat, i < n1 → L1[i]? = L2[i]?) → decide (L1 = L2) = true from fun h => decide_eq_true (List.ext_getElem? fun i => by
      by_cases hi : i < n1
      · exact h i hi
      · rw [List.getElem?_eq_none (by omega), List.getElem?_eq_none (by omega)]))
    have fne := Lib.hid (show ∀ i : Nat, L1[i]? ≠ L2[i]? → decide (L1 = L2) = false from fun i hne => decide_eq_false (fun e => hne (by rw [e])))
    have H1 := Lib.hid M1
    have H2 := Lib.hid M2
    have E1 := Lib.hid e1
    have E2 := Lib.hid e2
    obtain ⟨r, hr⟩ : ∃ r, r = decide (L1 = L2) := ⟨_, rfl⟩
    rw [← hr]
    have HR := Lib.hid hr
    clear hr M1 M2 e1 e2
    go_enter Try.func53, Try.ntmps53
    go_wp2_with fail
    go_loopw [13] (fun iv wr => ∃ i q : Nat, i ≤ n1 ∧ iv = .int .i64 i ∧ (∀ j : Nat, j < i → L1[j]? = L2[j]?) ∧ wr = w.drewN q) (fun iv _ => n1 - (intOf iv).toNat)
    case atStart => exact ⟨0, 0, by omega, rfl, fun j hj => by omega, rfl⟩
    case round =>
      obtain ⟨i, q, hi, rfl, hall, rfl⟩ := hrel
      by_cases hin : i < n1
      · have ii : (i : Int) < (n1 : Int) := by omega
        obtain ⟨g1, o1, rfl, _, hc1⟩ := H1.out.form (by rw [← E1.out]; omega)
        obtain ⟨g2, o2, rfl, _, hc2⟩ := H2.out.form (by rw [← E2.out]; omega)
        obtain ⟨x, hx⟩ : ∃ f, L1[i]? = some f := ⟨_, List.getElem?_eq_getElem (by rw [← E1.out]; omega)⟩
        obtain ⟨y, hy⟩ : ∃ f, L2[i]? = some f := ⟨_, List.getElem?_eq_getElem (by rw [← E2.out]; omega)⟩
        have x1 := hc1 i x hx
        have x2 := hc2 i y hy
        have HX := Lib.hid hx
        have HY := Lib.hid hy
        have HA := Lib.hid hall
        have HIN := Lib.hid hin
        have NE0 := fun w => run_neqCl x y w
        by_cases huv : x = y
        · have st := Lib.hid (show L1[i]? = L2[i]? by rw [hx, hy, huv])
          have bq : eqc x y = true := by rw [huv]; exact eqc_refl _
          rw [bq] at NE0
          clear huv bq
          obtain ⟨xi, xb, xn, xs⟩ := x
          obtain ⟨yi, yb, yn, ys⟩ := y
          have y1 : w.cell? ⟨g1, o1 + i * 4, none⟩ = some (.int .i64 xi) := x1 0 _ rfl
          have y2 : w.cell? ⟨g1, o1 + i * 4 + 1, none⟩ = some (.bool xb) := x1 1 _ rfl
          have y3 : w.cell? ⟨g1, o1 + i * 4 + 2, none⟩ = some (.int .i64 xn) := x1 2 _ rfl
          have y4 : w.cell? ⟨g1, o1 + i * 4 + 3, none⟩ = some (.string xs) := x1 3 _ rfl
          have y5 : w.cell? ⟨g2, o2 + i * 4, none⟩ = some (.int .i64 yi) := x2 0 _ rfl
          have y6 : w.cell? ⟨g2, o2 + i * 4 + 1, none⟩ = some (.bool yb) := x2 1 _ rfl
          have y7 : w.cell? ⟨g2, o2 + i * 4 + 2, none⟩ = some (.int .i64 yn) := x2 2 _ rfl
          have y8 : w.cell? ⟨g2, o2 + i * 4 + 3, none⟩ = some (.string ys) := x2 3 _ rfl
          have GU := fun x y (w : World) => run_eqGuard_agg (P := Try.prog) w .neq 58 x y #[.int .i64 xi, .bool xb, .int .i64 xn, .string xs] #[.int .i64 yi, .bool yb, .int .i64 yn, .string ys] guard58
          simp only [Bool.not_true] at NE0
          clear hc1 hc2 hall hin hx hy hi x1 x2
          go_wp2_with fail
          go_quiet (fail)
          go_wp2_with fail
          go_roundw
          case rel => exact ⟨i + 1, q + nq, HIN.out, by go_num, fun j hj => by
            by_cases e : j = i
            · rw [e]; exact st.out
            · exact HA.out j (by omega), by first | rfl | rw [World.drewN_drewN]⟩
          case measure => have := HIN.out; simp [intOf] <;> omega
        · have rf : Hid (false = r) := Lib.hid (by rw [HR.out, fne.out i (by rw [hx, hy]; intro e; exact huv (Option.some.inj e))])
          have bq := eqc_false huv
          rw [bq] at NE0
          clear huv bq
          obtain ⟨xi, xb, xn, xs⟩ := x
          obtain ⟨yi, yb, yn, ys⟩ := y
          have y1 : w.cell? ⟨g1, o1 + i * 4, none⟩ = some (.int .i64 xi) := x1 0 _ rfl
          have y2 : w.cell? ⟨g1, o1 + i * 4 + 1, none⟩ = some (.bool xb) := x1 1 _ rfl
          have y3 : w.cell? ⟨g1, o1 + i * 4 + 2, none⟩ = some (.int .i64 xn) := x1 2 _ rfl
          have y4 : w.cell? ⟨g1, o1 + i * 4 + 3, none⟩ = some (.string xs) := x1 3 _ rfl
          have y5 : w.cell? ⟨g2, o2 + i * 4, none⟩ = some (.int .i64 yi) := x2 0 _ rfl
          have y6 : w.cell? ⟨g2, o2 + i * 4 + 1, none⟩ = some (.bool yb) := x2 1 _ rfl
          have y7 : w.cell? ⟨g2, o2 + i * 4 + 2, none⟩ = some (.int .i64 yn) := x2 2 _ rfl
          have y8 : w.cell? ⟨g2, o2 + i * 4 + 3, none⟩ = some (.string ys) := x2 3 _ rfl
          have GU := fun x y (w : World) => run_eqGuard_agg (P := Try.prog) w .neq 58 x y #[.int .i64 xi, .bool xb, .int .i64 xn, .string xs] #[.int .i64 yi, .bool yb, .int .i64 yn, .string ys] guard58
          simp only [Bool.not_false] at NE0
          clear hc1 hc2 hall hin hx hy hi x1 x2
          go_wp2_with fail
          go_quiet (fail)
          go_wp2_with fail
          first | go_ret | ((try simp only [Exit.inBlock, Exit.then]); go_ret)
          exact ⟨by rw [← rf.out]; rfl, q + nq, by first | rfl | rw [World.drewN_drewN]⟩
      · obtain rfl : i = n1 := by omega
        have ii : ¬ (i : Int) < (i : Int) := by omega
        have rt : Hid (true = r) := Lib.hid (by rw [HR.out, fin.out hall])
        clear hall
        go_wp2_with fail
        first | go_ret | ((try simp only [Exit.inBlock, Exit.then]); go_ret)
        exact ⟨by rw [← rt.out]; rfl, q, rfl⟩
  · have rf : decide (L1 = L2) = false := decide_eq_false (fun e => hl (by rw [e1, e2, e]))
    have b : ((n1 : Int) == (n2 : Int)) = false := beq_eq_false_iff_ne.2 (by omega)
    rw [rf]
    clear rf e1 e2
    go_enter Try.func53, Try.ntmps53
    go_wp2_with fail
    first | go_ret | ((try simp only [Exit.inBlock, Exit.then]); go_ret)
    exact ⟨rfl, 0, rfl⟩
end Go.Proofs.Ytkonoojmhjinpaa
