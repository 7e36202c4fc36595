/- Rows in memory; the contracts of number and of the search that it calls. -/
import Derived.Test.YtnpkbjekodjcjaaDoorI
import Derived.Deep.MidRow
set_option linter.all false
namespace Go.Proofs.YtnpkbjekodjcjaaDoor
open Go.RowKit Go.Fen Hil
set_option linter.unusedVariables false
set_option maxHeartbeats 4000000

/-- the four cells of a field: its number, not null, its value, no text -/
def fcells (f : Int × Int) : List Value := [.int .i64 f.1, .bool false, .int .i64 f.2, .string ⟨#[]⟩]
/-- a row lies in memory -/
def RowM (w : World) (v : Value) (fs : List (Int × Int)) : Prop :=
  ∃ a c, v = .slice a fs.length c ∧ fs.length ≤ 1000000 ∧ ((a = none ∧ fs.length = 0) ∨ ∃ g o, a = some ⟨g, o, none⟩ ∧ g < w.heap.size ∧ ∀ i, i < fs.length → w.rangeAt g (o + i * 4) (fcells (fs.getD i (0, 0))))
theorem range_below {w w' : World} {B g o : Nat} {l : List Value} (h : w.rangeAt g o l) (hb : Below B w w') (hg : g < B) : w'.rangeAt g o l := fun j v hv => (hb.cell (p := ⟨g, o + j, none⟩) hg).trans (h j v hv)
theorem RowM.below {w w' : World} {B : Nat} {v : Value} {fs : List (Int × Int)} (h : RowM w v fs) (hb : Below B w w') (hB : w.heap.size ≤ B) : RowM w' v fs := by
  obtain ⟨a, c, e, hl, h | ⟨g, o, ea, hg, hc⟩⟩ := h
  · exact ⟨a, c, e, hl, .inl h⟩
  · exact ⟨a, c, e, hl, .inr ⟨g, o, ea, Nat.lt_of_lt_of_le hg hb.size, fun i hi => range_below (hc i hi) hb (Nat.lt_of_lt_of_le hg hB)⟩⟩

theorem Tryd.n80 : (Tryd.prog.info? 80).map (·.size) = some 4 := by kernel_rfl

/-- the place of a field -/
def posR (fs : List (Int × Int)) (id : Int) : Nat := fs.findIdx fun f => f.1 == id
/-- the value of a field -/
def numR (fs : List (Int × Int)) (id : Int) : Int × Bool := if posR fs id < fs.length then ((fs.getD (posR fs id) (0, 0)).2, true) else (0, false)

theorem posR_lt (fs : List (Int × Int)) (id : Int) (j : Nat) (h : j < posR fs id) (hj : j < fs.length) : ((fs.getD j (0, 0)).1 == id) = false := by
  have := List.not_of_lt_findIdx (p := fun f => f.1 == id) (xs := fs) h
  simp only [List.getD, List.getElem?_eq_getElem hj, Option.getD_some]
  simpa using this
theorem posR_at (fs : List (Int × Int)) (id : Int) (h : posR fs id < fs.length) : ((fs.getD (posR fs id) (0, 0)).1 == id) = true := by
  have := List.findIdx_getElem (p := fun f : Int × Int => f.1 == id) (xs := fs) (w := h)
  simp only [List.getD, List.getElem?_eq_getElem h, Option.getD_some]
  exact this
theorem posR_le (fs : List (Int × Int)) (id : Int) : posR fs id ≤ fs.length := List.findIdx_le_length

theorem field_any (a id n : Int) (bi : Nat) (w : World) (c1 : w.cell? ⟨bi, 0, none⟩ = some (.int .i64 id)) (b : Bool) (hb : b = (a == id)) :
    Calls Tryd.prog 50 #[.agg #[.int .i64 a, .bool false, .int .i64 n, .string ⟨#[]⟩], .pointer (some ⟨bi, 0, none⟩)] w fun e w' => e = .returned (.bool b) ∧ Below w.heap.size w w' := by
  have l1 := block_lt_of_cell (a := ⟨bi, 0, none⟩) c1
  have n1 : bi ≠ w.heap.size := Nat.ne_of_lt l1
  have HB := Lib.hid ((Below.refl w.heap.size w).alloc (Nat.le_refl _) (.cells #[.int .i64 a, .bool false, .int .i64 n, .string ⟨#[]⟩] 80))
  subst hb
  go_enter Tryd.func50, Tryd.ntmps50
  go_wp2
  go_ret
  exact ⟨rfl, HB.out⟩

theorem indexc_any (a : Option Addr) (n c : Nat) (fs : List (Int × Int)) (id : Int) (bi : Nat) (w : World) (hR : RowM w (.slice a n c) fs) (en : n = fs.length) (c1 : w.cell? ⟨bi, 0, none⟩ = some (.int .i64 id)) :
    Calls Tryd.prog 49 #[.slice a n c, .func (.func 50) #[] #[.pointer (some ⟨bi, 0, none⟩)]] w fun e w' =>
      e = .returned (.int .i64 (if posR fs id < n then (posR fs id : Int) else -1)) ∧ Below w.heap.size w w' := by
  have l1 := block_lt_of_cell (a := ⟨bi, 0, none⟩) c1
  obtain ⟨a', c', e', hl, hM⟩ := hR
  injection e' with ea en' ec
  subst ea ec
  have hn : n ≤ 1000000 := by omega
  have FA := Lib.hid (fun (f : Int × Int) (W : World) (hb : Below w.heap.size w W) => field_any f.1 id f.2 bi W ((hb.cell (p := ⟨bi, 0, none⟩) l1).trans c1) _ rfl)
  have HM := Lib.hid hM
  have EN := Lib.hid en
  have PL := Lib.hid (posR_le fs id)
  obtain ⟨r, hr⟩ : ∃ r, r = (if posR fs id < n then (posR fs id : Int) else -1) := ⟨_, rfl⟩
  rw [← hr]
  have RS := Lib.hid hr
  clear hr hM en en' c1 l1 hl
  go_enter Tryd.func49, Tryd.ntmps49
  go_wp2_with fail
  go_loopw [5, 8] (fun _ iv wr => ∃ k : Nat, k ≤ posR fs id ∧ iv = .int .i64 k ∧ Below w.heap.size w wr) (fun _ iv _ => n - (intOf iv).toNat)
  case atStart => exact ⟨0, by omega, rfl, Below.refl _ _⟩
  case round =>
    obtain ⟨k, hk, rfl, hb⟩ := hrel
    by_cases hkn : k < n
    · have ki : (k : Int) < (n : Int) := by omega
      obtain ⟨g, o, ea, hg, hc⟩ : ∃ g o, a = some ⟨g, o, none⟩ ∧ g < w.heap.size ∧ ∀ i, i < fs.length → w.rangeAt g (o + i * 4) (fcells (fs.getD i (0, 0))) := by
        rcases HM.out with ⟨_, h⟩ | h
        · have := EN.out; omega
        · exact h
      subst ea
      have hr := range_below (hc k (by rw [← EN.out]; exact hkn)) hb hg
      have call := FA.out (fs.getD k (0, 0)) wr hb
      by_cases e : k = posR fs id
      · have ht := posR_at fs id (by rw [← e, ← EN.out]; exact hkn)
        rw [← e] at ht
        rw [ht] at call
        obtain ⟨⟨x, y⟩, hxy⟩ : ∃ f, f = fs.getD k (0, 0) := ⟨_, rfl⟩
        rw [← hxy] at call hr
        have RK := Lib.hid (show (k : Int) = r by rw [RS.out, ← e, if_pos hkn])
        have CALL := Lib.hid call
        have HR := Lib.hid hr
        have HB := Lib.hid hb
        clear hr hc hb call ht hxy e hk
        go_wp2_with (first | ((with_reducible show wpList _ _ _ (Oper.mk _ (Op.load _ _) _ _ _ _ :: _) _ _); refine wpList_load_mid rfl 80 (.tmp 14) rfl g (o + k * 4) rfl (fcells (x, y)) _ HR.out Tryd.underlying80 rfl Tryd.n80 ?_))
        refine CALL.out.mono ?_
        rintro e w' ⟨rfl, hb'⟩
        go_wp2_with fail
        go_ret
        exact ⟨by rw [← RK.out]; rfl, HB.out.trans (hb'.mono HB.out.size)⟩
      · have ht := posR_lt fs id k (by omega) (by rw [← EN.out]; exact hkn)
        rw [ht] at call
        have HN := Lib.hid (show k < posR fs id by omega)
        obtain ⟨⟨x, y⟩, hxy⟩ : ∃ f, f = fs.getD k (0, 0) := ⟨_, rfl⟩
        rw [← hxy] at call hr
        have CALL := Lib.hid call
        have HR := Lib.hid hr
        have HB := Lib.hid hb
        have HKN := Lib.hid hkn
        clear hr hc hb call ht hxy e hk hkn
        go_wp2_with (first | ((with_reducible show wpList _ _ _ (Oper.mk _ (Op.load _ _) _ _ _ _ :: _) _ _); refine wpList_load_mid rfl 80 (.tmp 14) rfl g (o + k * 4) rfl (fcells (x, y)) _ HR.out Tryd.underlying80 rfl Tryd.n80 ?_))
        refine CALL.out.mono ?_
        rintro e w' ⟨rfl, hb'⟩
        go_wp2_with fail
        go_roundw
        case rel => exact ⟨k + 1, HN.out, by go_num, HB.out.trans (hb'.mono HB.out.size)⟩
        case measure => have := HKN.out; simp [intOf] <;> omega
    · have ki : ¬ (k : Int) < (n : Int) := by omega
      have : ¬ posR fs id < n := by omega
      have RK := Lib.hid (show (-1 : Int) = r by rw [RS.out, if_neg this])
      have HB := Lib.hid hb
      clear hb hk this hkn
      go_wp2_with fail
      go_ret
      exact ⟨by rw [← RK.out]; rfl, HB.out⟩
end Go.Proofs.YtnpkbjekodjcjaaDoor
