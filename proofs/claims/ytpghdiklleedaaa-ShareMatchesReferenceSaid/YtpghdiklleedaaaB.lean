/- The contract of newTables: the powers of 3 and the logarithms. -/
import Derived.Test.YtpghdiklleedaaaRows
import Derived.Test.YtpghdiklleedaaaKit5
import Derived.Test.YtpghdiklleedaaaGfPoly
import Derived.Laws.BitsAllLaws
import Derived.Laws.BitsLemmas
import Derived.Outline
set_option linter.all false
namespace Go.Proofs.Ytpghdiklleedaaa
open Go.RowKit Go.Fen Gf
set_option linter.unusedVariables false
set_option maxHeartbeats 400000

/-- 510 bytes and 256 ints, all zero -/
def zeroTab : Array Value := (List.replicate 510 (Value.int .u8 0) ++ List.replicate 256 (Value.int .i64 0)).toArray
theorem Try.n69 : (Try.prog.info? 69).map (·.size) = some 766 := by kernel_rfl
theorem Try.n66 : (Try.prog.info? 66).map (·.size) = some 510 := by kernel_rfl
theorem build69 (w : World) : (Instr.build 69 #[]).run Try.prog w = .ok (.agg zeroTab) w := by kernel_rfl

theorem wpList_build0 {P : Program} {a : Act} {w : World} {ops : Array Oper} {rest : List Oper} {Q : Exit → Act → World → Prop} {o : Oper} (h1 : o.guard = none) (ty : TypeId) (ho : o.op = .build ty #[]) (z : Array Value) (hz : (Instr.build ty #[]).run P w = .ok (.agg z) w)
    (h : wpList P ops Q rest (a.put o.dst (.agg z)) w) : wpList P ops Q (o :: rest) a w := by
  refine wpList_plain h1 fun K hK => ?_
  unfold Oper.wp execOp
  simp only [ho, Sem.run_bind, List.map_toArray, List.map_nil, hz]
  exact hK _ _ h

/-- the table after k rounds -/
def tabC : Nat → Array Value
  | 0 => zeroTab
  | k + 1 => (((tabC k).setIfInBounds k (.int .u8 (pw k).toNat)).setIfInBounds (k + 255) (.int .u8 (pw k).toNat)).setIfInBounds (510 + (pw k).toNat) (.int .i64 k)
theorem size_tabC (k : Nat) : (tabC k).size = 766 := by
  induction k with
  | zero => decide +kernel
  | succ k ih => simp [tabC, ih]
/-- the whole table -/
@[irreducible] def theTab : Array Value := tabC 255
theorem theTab_eq : theTab = tabC 255 := by unfold theTab; rfl
/-- x and twice x -/
def dbl (x : BitVec 8) : Nat := x.toNat ^^^ (2 * x.toNat)
theorem i64_ofInt (a : Nat) (ha : a < 9223372036854775808) : (BitVec.ofInt 64 (a : Int)).toNat = a := by
  rw [BitVec.ofInt_natCast, BitVec.toNat_ofNat]; exact Nat.mod_eq_of_lt (by omega)
theorem i64_xor_n (a b : Nat) (ha : a < 65536) (hb : b < 65536) : bits .xor .i64 (a : Int) (b : Int) = ((a ^^^ b : Nat) : Int) := by
  have hx : a ^^^ b < 2 ^ 16 := Nat.xor_lt_two_pow (by omega) (by omega)
  show IntKind.i64.wrap ((BitVec.ofInt 64 (a : Int) ^^^ BitVec.ofInt 64 (b : Int)).toNat : Int) = _
  rw [BitVec.toNat_xor, i64_ofInt a (by omega), i64_ofInt b (by omega)]
  have hb' : IntKind.i64.bits = 64 := rfl
  have hs : IntKind.i64.signed = true := rfl
  simp [IntKind.wrap, hb', hs]
  omega
theorem dbl_lt (x : BitVec 8) : dbl x < 512 := by
  have e : ∀ n : Fin 256, dbl (BitVec.ofFin n) < 512 := by decide +kernel
  exact e x.toFin
theorem dbl_bits (x : BitVec 8) : bits .xor .i64 (x.toNat : Int) ((x.toNat : Int) * 2) = (dbl x : Int) := by
  have h := i64_xor_n x.toNat (2 * x.toNat) (by have := x.isLt; omega) (by have := x.isLt; omega)
  rw [show ((x.toNat : Int) * 2) = ((2 * x.toNat : Nat) : Int) by omega]
  exact h
theorem dbl_hi (x : BitVec 8) (h : 255 < dbl x) : bits .xor .i64 (dbl x : Int) 283 = ((mul 3#8 x).toNat : Int) := by
  have e : ∀ n : Fin 256, 255 < dbl (BitVec.ofFin n) → (dbl (BitVec.ofFin n) ^^^ 283) = (mul 3#8 (BitVec.ofFin n)).toNat := by decide +kernel
  have h1 := i64_xor_n (dbl x) 283 (by have := dbl_lt x; omega) (by omega)
  rw [e x.toFin h] at h1
  exact h1
theorem dbl_lo (x : BitVec 8) (h : ¬ 255 < dbl x) : (dbl x : Int) = ((mul 3#8 x).toNat : Int) := by
  have e : ∀ n : Fin 256, ¬ 255 < dbl (BitVec.ofFin n) → dbl (BitVec.ofFin n) = (mul 3#8 (BitVec.ofFin n)).toNat := by decide +kernel
  have h1 := e x.toFin h
  have h2 : dbl (BitVec.ofFin x.toFin) = dbl x := rfl
  have h3 : (mul 3#8 (BitVec.ofFin x.toFin)).toNat = (mul 3#8 x).toNat := rfl
  omega

set_option maxHeartbeats 1000000 in
theorem newTables_any (w : World) : Calls Try.prog 28 #[] w fun e w' => e = .returned (.pointer (some ⟨w.heap.size, 0, none⟩)) ∧ Row w' w.heap.size 69 theTab ∧ Below w.heap.size w w' := by
  obtain ⟨g, eg⟩ : ∃ g, g = w.heap.size := ⟨_, rfl⟩
  rw [← eg]
  have r0 : Row (w.alloc (.cells zeroTab 69)) g 69 (tabC 0) := Row.new' _ _ eg
  have b0 : Below g w (w.alloc (.cells zeroTab 69)) := by rw [eg]; exact (Below.refl _ _).alloc (Nat.le_refl _) _
  have EG := Lib.hid eg
  clear eg
  go_enter Try.func28, Try.ntmps28
  go_wp2_with (first | ((with_reducible show wpList _ _ _ (Oper.mk _ (Op.build _ _) _ _ _ _ :: _) _ _); refine wpList_build0 rfl 69 rfl zeroTab (build69 _) ?_) | ((with_reducible show wpList _ _ _ (Oper.mk _ (Op.box _ _) _ _ _ _ :: _) _ _); refine wpList_box_row rfl 69 (.tmp 4) rfl zeroTab rfl g EG.out ?_))
  generalize w.alloc (.cells zeroTab 69) = W1 at *
  go_loopw [2, 6] (fun vx i wr => ∃ k : Nat, k ≤ 255 ∧ i = .int .i64 k ∧ vx = .int .i64 (pw k).toNat ∧ Row wr g 69 (tabC k) ∧ Below g w wr) (fun _ i _ => 255 - (intOf i).toNat)
  case atStart => exact ⟨0, by omega, rfl, rfl, r0, b0⟩
  case round =>
    clear r0 b0
    obtain ⟨k, hk, rfl, rfl, r, hb⟩ := hrel
    by_cases hk1 : k < 255
    · have hsz := size_tabC k
      have hs : tabC (k + 1) = (((tabC k).setIfInBounds k (.int .u8 (pw k).toNat)).setIfInBounds (k + 255) (.int .u8 (pw k).toNat)).setIfInBounds (510 + (pw k).toNat) (.int .i64 k) := rfl
      have hp : pw (k + 1) = mul 3#8 (pw k) := rfl
      have hd := dbl_bits (pw k)
      have hhi := dbl_hi (pw k)
      have hlo := dbl_lo (pw k)
      rw [← hp] at hhi hlo
      have hdl := dbl_lt (pw k)
      generalize dbl (pw k) = y at *
      generalize hX : pw (k + 1) = x' at *
      generalize pw k = x at *
      have hx := x.isLt
      obtain ⟨v1, c1⟩ : ∃ v, wr.cell? ⟨g, k, none⟩ = some v := ⟨_, (r.cell k).trans (Array.getElem?_eq_getElem (by omega))⟩
      obtain ⟨v2, c2⟩ : ∃ v, wr.cell? ⟨g, k + 255, none⟩ = some v := ⟨_, (r.cell (k + 255)).trans (Array.getElem?_eq_getElem (by omega))⟩
      obtain ⟨v3, c3⟩ : ∃ v, wr.cell? ⟨g, 510 + x.toNat, none⟩ = some v := ⟨_, (r.cell (510 + x.toNat)).trans (Array.getElem?_eq_getElem (by omega))⟩
      have f1 := r.frozen k
      have f2 := r.frozen (k + 255)
      have f3 := r.frozen (510 + x.toNat)
      have ki : (k : Int) < 255 := by omega
      have xi : (x.toNat : Int) < 256 := by omega
      have xm : (x.toNat : Int) % 256 = (x.toNat : Int) := by omega
      have Hs := Lib.hid hs
      have R := Lib.hid r
      have Hb := Lib.hid hb
      have HX := Lib.hid hX
      clear hs r hb hp hsz hX
      go_wp2_with fail
      go_region
      by_cases h255 : 255 < y
      · have hhi' := hhi h255
        have yi : (255 : Int) < (y : Int) := by omega
        clear hhi hlo
        go_wp2
        refine ⟨⟨k + 1, by omega, by go_num, by rw [HX.out], ?_, ?_⟩, ?_⟩
        · rw [Hs.out]
          exact ((R.out.set k _).set (k + 255) _).drew.set (510 + x.toNat) _
        · exact ((Hb.out.setCell (Nat.le_refl _) _).setCell (Nat.le_refl _) _).drew.setCell (Nat.le_refl _) _
        · simp [intOf] <;> omega
      · have hhi' := hlo h255
        obtain rfl : y = x'.toNat := by omega
        have yi : ¬ (255 : Int) < (x'.toNat : Int) := by omega
        clear hhi'
        clear hhi hlo
        go_wp2
        refine ⟨⟨k + 1, by omega, by go_num, by rw [HX.out], ?_, ?_⟩, ?_⟩
        · rw [Hs.out]
          exact ((R.out.set k _).set (k + 255) _).drew.set (510 + x.toNat) _
        · exact ((Hb.out.setCell (Nat.le_refl _) _).setCell (Nat.le_refl _) _).drew.setCell (Nat.le_refl _) _
        · simp [intOf] <;> omega
    · have h255 : Hid (tabC k = theTab) := Lib.hid (by rw [theTab_eq, show k = 255 by omega])
      have hge : ¬ ((k : Int) < 255) := by omega
      rw [h255.out] at r
      clear hk1 h255 hk
      have R := Lib.hid r
      have Hb := Lib.hid hb
      clear r hb
      set_option maxRecDepth 10000 in go_wp2
      go_ret
      exact ⟨rfl, R.out, Hb.out⟩
end Go.Proofs.Ytpghdiklleedaaa
