/- Laws of general use for these proofs: whole arrays that are laid, stored and loaded; rows of bytes and of words; bit vectors for the model's integers. No program is named here. -/
import Derived.WalkKit
import Derived.ProofKit
import Derived.WalkLawsBesides
import Derived.Deep.OwnRows
import Derived.Deep.WholeRow
import Derived.Laws.Rows
import Derived.Lib.Hide
set_option linter.all false
namespace Go.Fen
open Go Go.RowKit
variable {P : Program}

theorem ret_int {k : IntKind} {a b : Int} (h : a = b) : Ending.returned (.int k a) = .returned (.int k b) := by rw [h]

/-! ### bit vectors -/
theorem u32_add_bv (x y : BitVec 32) : ((x.toNat : Int) + y.toNat) % 4294967296 = ((x + y).toNat : Int) := by
  rw [BitVec.toNat_add]; omega
theorem u32_sub_bv (x y : BitVec 32) : ((x.toNat : Int) - y.toNat) % 4294967296 = ((x - y).toNat : Int) := by
  rw [BitVec.toNat_sub]
  have := x.isLt; have := y.isLt
  omega
theorem u32_xor_bv (x y : BitVec 32) : bits BinOp.xor IntKind.u32 (x.toNat : Int) (y.toNat : Int) = ((x ^^^ y).toNat : Int) := by
  rw [u32_xor_nat _ _ x.isLt y.isLt, BitVec.toNat_xor]
theorem u32_or_bv (x y : BitVec 32) : bits BinOp.or IntKind.u32 (x.toNat : Int) (y.toNat : Int) = ((x ||| y).toNat : Int) := by
  rw [u32_or_nat _ _ x.isLt y.isLt, BitVec.toNat_or]
theorem u8_xor_bv (x y : BitVec 8) : bits BinOp.xor IntKind.u8 (x.toNat : Int) (y.toNat : Int) = ((x ^^^ y).toNat : Int) := by
  rw [u8_xor_nat _ _ x.isLt y.isLt, BitVec.toNat_xor]
theorem rotl_bv (x : BitVec 32) (k : Nat) (hk : k ≤ 31) :
    bits BinOp.or IntKind.u32 ((x.toNat : Int) * 2 ^ k % 4294967296) ((x.toNat : Int) / 2 ^ (32 - k)) = ((x.rotateLeft k).toNat : Int) := by
  have hx := x.isLt
  have e1 : ((x.toNat : Int) * 2 ^ k % 4294967296) = ((x <<< k).toNat : Int) := by
    rw [BitVec.toNat_shiftLeft, Nat.shiftLeft_eq, Int.natCast_emod, Int.natCast_mul, Int.natCast_pow]; rfl
  have e2 : ((x.toNat : Int) / 2 ^ (32 - k)) = ((x >>> (32 - k)).toNat : Int) := by
    rw [BitVec.toNat_ushiftRight, Nat.shiftRight_eq_div_pow, Int.natCast_ediv, Int.natCast_pow]; rfl
  rw [e1, e2, u32_or_nat _ _ (x <<< k).isLt (x >>> (32 - k)).isLt, ← BitVec.toNat_or]
  rw [BitVec.rotateLeft_def, Nat.mod_eq_of_lt (by omega)]

/-- the word of four bytes, the least significant one first -/
def wordOf (a b c d : BitVec 8) : BitVec 32 := a.setWidth 32 ||| b.setWidth 32 <<< 8 ||| c.setWidth 32 <<< 16 ||| d.setWidth 32 <<< 24
theorem shl_bv (b : BitVec 8) (k : Nat) (hk : k ≤ 24) : ((b.setWidth 32 <<< k).toNat) = b.toNat * 2 ^ k := by
  have hb := b.isLt
  rw [BitVec.toNat_shiftLeft, Nat.shiftLeft_eq, BitVec.toNat_setWidth, Nat.mod_eq_of_lt (by omega : b.toNat < 2 ^ 32)]
  refine Nat.mod_eq_of_lt ?_
  have : b.toNat * 2 ^ k ≤ 255 * 2 ^ 24 := Nat.mul_le_mul (by omega) (Nat.pow_le_pow_right (by omega) hk)
  omega
theorem word_bits (a b c d : BitVec 8) :
    bits BinOp.or IntKind.u32 (bits BinOp.or IntKind.u32 (bits BinOp.or IntKind.u32 (a.toNat : Int) ((b.toNat : Int) * 256)) ((c.toNat : Int) * 65536)) ((d.toNat : Int) * 16777216) = ((wordOf a b c d).toNat : Int) := by
  have ha : a.toNat = (a.setWidth 32).toNat := by
    rw [BitVec.toNat_setWidth, Nat.mod_eq_of_lt (by have := a.isLt; omega : a.toNat < 2 ^ 32)]
  rw [show (b.toNat : Int) * 256 = ((b.toNat * 2 ^ 8 : Nat) : Int) by omega, show (c.toNat : Int) * 65536 = ((c.toNat * 2 ^ 16 : Nat) : Int) by omega,
    show (d.toNat : Int) * 16777216 = ((d.toNat * 2 ^ 24 : Nat) : Int) by omega, ← shl_bv b 8 (by omega), ← shl_bv c 16 (by omega), ← shl_bv d 24 (by omega), ha]
  rw [u32_or_nat _ _ (BitVec.isLt _) (BitVec.isLt _), ← BitVec.toNat_or, u32_or_nat _ _ (BitVec.isLt _) (BitVec.isLt _), ← BitVec.toNat_or,
    u32_or_nat _ _ (BitVec.isLt _) (BitVec.isLt _), ← BitVec.toNat_or]
  rfl
theorem word_nat (a b c d : BitVec 8) : (wordOf a b c d).toNat = a.toNat + 256 * b.toNat + 65536 * c.toNat + 16777216 * d.toNat := by
  have ha : (a.setWidth 32).toNat = a.toNat := by
    rw [BitVec.toNat_setWidth, Nat.mod_eq_of_lt (by have := a.isLt; omega : a.toNat < 2 ^ 32)]
  have := a.isLt; have := b.isLt; have := c.isLt; have := d.isLt
  unfold wordOf
  rw [BitVec.toNat_or, BitVec.toNat_or, BitVec.toNat_or, shl_bv b 8 (by omega), shl_bv c 16 (by omega), shl_bv d 24 (by omega), ha]
  rw [Nat.or_comm a.toNat, nat_join 8 (b.toNat * 2 ^ 8) a.toNat (by omega) (by omega)]
  rw [Nat.or_comm _ (c.toNat * 2 ^ 16), nat_join 16 (c.toNat * 2 ^ 16) _ (by omega) (by omega)]
  rw [Nat.or_comm _ (d.toNat * 2 ^ 24), nat_join 24 (d.toNat * 2 ^ 24) _ (by omega) (by omega)]
  omega
theorem word_sum (a b c d : BitVec 8) : ((a.toNat : Int) + 256 * (b.toNat : Int) + 65536 * (c.toNat : Int) + 16777216 * (d.toNat : Int)) = ((wordOf a b c d).toNat : Int) := by
  rw [word_nat]; omega

/-- what 'mix' makes of a state: word b is added to word a, and word d is combined with it and rotated -/
def mixL (l : List (BitVec 32)) (a b d k : Nat) : List (BitVec 32) :=
  (l.set a (l.getD a 0#32 + l.getD b 0#32)).set d ((l.getD d 0#32 ^^^ (l.getD a 0#32 + l.getD b 0#32)).rotateLeft k)

/-- byte k of a word -/
def byteW (x : BitVec 32) (k : Nat) : BitVec 8 := (x >>> (8 * k)).setWidth 8
theorem byte_bv0 (x : BitVec 32) : ((x.toNat : Int) % 256) = ((byteW x 0).toNat : Int) := by
  simp [byteW]
theorem byte_bv (x : BitVec 32) (k : Nat) : ((x.toNat : Int) / ((2 ^ (8 * k) : Nat) : Int) % 256) = ((byteW x k).toNat : Int) := by
  rw [byteW, BitVec.toNat_setWidth, BitVec.toNat_ushiftRight, Nat.shiftRight_eq_div_pow, Int.natCast_emod, Int.natCast_ediv]; rfl

/-! ### arrays by value -/
/-- the cells of a row of bytes -/
def bcells (l : List (BitVec 8)) : Array Value := (l.map fun b => Value.int .u8 b.toNat).toArray
/-- the cells of a row of words -/
def wcells (l : List (BitVec 32)) : Array Value := (l.map fun b => Value.int .u32 b.toNat).toArray
/-- the cells of a row of ints -/
def icells (l : List Int) : Array Value := (l.map fun b => Value.int .i64 b).toArray

theorem size_bcells (l : List (BitVec 8)) : (bcells l).size = l.length := by simp [bcells]
theorem size_wcells (l : List (BitVec 32)) : (wcells l).size = l.length := by simp [wcells]
theorem size_icells (l : List Int) : (icells l).size = l.length := by simp [icells]
theorem get_bcells (l : List (BitVec 8)) (i : Nat) (h : i < l.length) : (bcells l)[i]? = some (.int .u8 (l.getD i 0#8).toNat) := by
  simp [bcells, h]
theorem get_wcells (l : List (BitVec 32)) (i : Nat) (h : i < l.length) : (wcells l)[i]? = some (.int .u32 (l.getD i 0#32).toNat) := by
  simp [wcells, h]
theorem get_icells (l : List Int) (i : Nat) (h : i < l.length) : (icells l)[i]? = some (.int .i64 (l.getD i 0)) := by
  simp [icells, h]
theorem one_bcells (l : List (BitVec 8)) : (bcells l).all (·.oneCell') = true := by
  simp [bcells, Value.oneCell', List.all_eq_true]
theorem one_wcells (l : List (BitVec 32)) : (wcells l).all (·.oneCell') = true := by
  simp [wcells, Value.oneCell', List.all_eq_true]
theorem one_icells (l : List Int) : (icells l).all (·.oneCell') = true := by
  simp [icells, Value.oneCell', List.all_eq_true]
theorem set_bcells (l : List (BitVec 8)) (i : Nat) (b : BitVec 8) : (bcells l).setIfInBounds i (.int .u8 b.toNat) = bcells (l.set i b) := by
  simp [bcells, List.map_set]
theorem set_wcells (l : List (BitVec 32)) (i : Nat) (b : BitVec 32) : (wcells l).setIfInBounds i (.int .u32 b.toNat) = wcells (l.set i b) := by
  simp [wcells, List.map_set]
theorem set_icells (l : List Int) (i : Nat) (b : Int) : (icells l).setIfInBounds i (.int .i64 b) = icells (l.set i b) := by
  simp [icells, List.map_set]

/-- Block g is a row of the cells cs, not frozen. -/
def Row (w : World) (g : Nat) (t : TypeId) (cs : Array Value) : Prop := w.heap[g]? = some (.cells cs t (0, 0))
theorem Row.lt {w : World} {g : Nat} {t : TypeId} {cs : Array Value} (h : Row w g t cs) : g < w.heap.size := (Array.getElem?_eq_some_iff.1 h).1
theorem Row.cell {w : World} {g : Nat} {t : TypeId} {cs : Array Value} (h : Row w g t cs) (i : Nat) : w.cell? ⟨g, i, none⟩ = cs[i]? := by
  unfold Row at h; simp [World.cell?, h]
theorem Row.frozen {w : World} {g : Nat} {t : TypeId} {cs : Array Value} (h : Row w g t cs) (i : Nat) : w.frozen? ⟨g, i, none⟩ = false := by
  unfold Row at h; simp [World.frozen?, h]
theorem Row.set {w : World} {g : Nat} {t : TypeId} {cs : Array Value} (h : Row w g t cs) (i : Nat) (v : Value) : Row (w.setCell ⟨g, i, none⟩ v) g t (cs.setIfInBounds i v) := by
  unfold Row at *
  simp [World.setCell, Array.getElem?_modify, h]
theorem Row.other {w w' : World} {g : Nat} {t : TypeId} {cs : Array Value} (h : Row w g t cs) (e : w'.heap[g]? = w.heap[g]?) : Row w' g t cs := e.trans h
theorem Row.setOther {w : World} {g : Nat} {t : TypeId} {cs : Array Value} (h : Row w g t cs) {a : Addr} (ha : g ≠ a.block) (v : Value) : Row (w.setCell a v) g t cs :=
  h.other (Below.heap_setCell _ _ _ _ ha)
theorem Row.alloc {w : World} {g : Nat} {t : TypeId} {cs : Array Value} (h : Row w g t cs) (o : Obj) : Row (w.alloc o) g t cs :=
  h.other (Below.heap_alloc _ _ _ h.lt)
theorem Row.drew {w : World} {g : Nat} {t : TypeId} {cs : Array Value} (h : Row w g t cs) : Row w.drew g t cs := h
theorem Row.drewN {w : World} {g : Nat} {t : TypeId} {cs : Array Value} (h : Row w g t cs) (n : Nat) : Row (w.drewN n) g t cs := h
theorem Row.below {w w' : World} {B g : Nat} {t : TypeId} {cs : Array Value} (h : Row w g t cs) (hb : Below B w w') (hg : g < B) : Row w' g t cs := h.other (hb.block g hg)
theorem Row.grown {w w' : World} {g : Nat} {r : Option Nat} {t : TypeId} {cs : Array Value} (h : Row w g t cs) (hb : w.grownBy w' r) (hg : some g ≠ r) : Row w' g t cs := h.other (hb.block g h.lt hg)
theorem Row.new (w : World) (t : TypeId) (cs : Array Value) : Row (w.alloc (.cells cs t)) w.heap.size t cs := heap_alloc_last w _
theorem heap_get (w : World) (o : Obj) (i : Nat) : (w.alloc o).heap[i]? = if i = w.heap.size then some o else w.heap[i]? := by
  show (w.heap.push o)[i]? = _
  rw [Array.getElem?_push]
theorem Row.new' {w : World} {g : Nat} (t : TypeId) (cs : Array Value) (h : g = w.heap.size) : Row (w.alloc (.cells cs t)) g t cs := by subst h; exact Row.new w t cs
theorem Row.setRow {w : World} {g : Nat} {t : TypeId} {cs : Array Value} (h : Row w g t cs) (cs' : Array Value) : Row (w.setRow g cs') g t cs' := setRow_heap w g cs cs' t _ h
theorem Row.setRowOther {w : World} {g g' : Nat} {t : TypeId} {cs : Array Value} (h : Row w g t cs) (cs' : Array Value) (hg : g ≠ g') : Row (w.setRow g' cs') g t cs :=
  h.other (setRow_other _ _ _ _ hg)

/-! ### slices of bytes -/
/-- The slice that begins at a holds the bytes l. -/
def Bs (w : World) (a : Option Addr) (l : List (BitVec 8)) : Prop :=
  l = [] ∨ ∃ g o, a = some ⟨g, o, none⟩ ∧ ∀ i, i < l.length → w.cell? ⟨g, o + i, none⟩ = some (.int .u8 (l.getD i 0#8).toNat)
theorem Bs.of_row {w : World} {g : Nat} {t : TypeId} {l : List (BitVec 8)} (h : Row w g t (bcells l)) : Bs w (some ⟨g, 0, none⟩) l :=
  .inr ⟨g, 0, rfl, fun i hi => by rw [Nat.zero_add]; exact (h.cell i).trans (get_bcells l i hi)⟩
theorem Bs.below {w w' : World} {B : Nat} {a : Option Addr} {l : List (BitVec 8)} (h : Bs w a l) (hb : Below B w w') (hB : w.heap.size ≤ B) : Bs w' a l := by
  rcases h with h | ⟨g, o, ha, hc⟩
  · exact .inl h
  · refine .inr ⟨g, o, ha, fun i hi => ?_⟩
    have h1 := hc i hi
    have hlt : g < w.heap.size := block_lt_of_cell (a := ⟨g, o + i, none⟩) h1
    rw [hb.cell (p := ⟨g, o + i, none⟩) (by show g < B; omega)]
    exact h1
theorem Bs.take {w : World} {a : Option Addr} {l : List (BitVec 8)} (h : Bs w a l) (n : Nat) : Bs w a (l.take n) := by
  rcases h with h | ⟨g, o, ha, hc⟩
  · exact .inl (by simp [h])
  · refine .inr ⟨g, o, ha, fun i hi => ?_⟩
    simp only [List.length_take] at hi
    rw [hc i (by omega)]
    simp [List.getD, List.getElem?_take, show i < n by omega]
/-- the string of bytes -/
def strB (l : List (BitVec 8)) : ByteArray := strOfNums (l.map fun b => (b.toNat : Int))
theorem run_conv_bytes (w : World) (src e dst : TypeId) (hs : P.underlying src = some (.slice e)) (he : P.underlying e = some (.int .u8)) (hd : P.underlying dst = some .string) (a : Option Addr) (l : List (BitVec 8)) (c : Nat) (h : Bs w a l) :
    (convert src dst (.slice a l.length c)).run P w = .ok (.string (strB l)) w := by
  rcases h with h | ⟨g, o, ha, hc⟩
  · subst h
    cases a with
    | none => exact run_convert_bytes_nil w src e hs he _ _ dst hd
    | some x =>
      rw [run_convert_bytes_string w src dst e _ _ c hs he hd, run_bytesToString w x _ c [] (by simp [loadCells, loadCellsFrom])]
      rfl
  · subst ha
    exact run_convert_bytes_arg w src e hs he g o l.length c (l.map fun b => (b.toNat : Int)) (by simp) (fun i hi => by
      rw [hc i hi]
      simp [List.getD, hi]) dst hd

/-! ### one row of memory written -/
theorem grown_refl (w : World) (r : Option Nat) : w.grownBy w r := ⟨rfl, rfl, rfl, Nat.le_refl _, fun _ _ _ => rfl⟩
theorem grown_trans {a b c : World} {r : Option Nat} (h : a.grownBy b r) (k : b.grownBy c r) : a.grownBy c r :=
  ⟨k.os.trans h.os, k.tape.trans h.tape, k.output.trans h.output, Nat.le_trans h.size k.size, fun i hi hr => (k.block i (Nat.lt_of_lt_of_le hi h.size) hr).trans (h.block i hi hr)⟩
theorem grown_set {a w : World} {g : Nat} (h : a.grownBy w (some g)) (i : Nat) (v : Value) : a.grownBy (w.setCell ⟨g, i, none⟩ v) (some g) :=
  grown_trans h ⟨rfl, rfl, rfl, by simp [World.setCell], fun k _ hk => Below.heap_setCell _ _ _ _ (fun e => hk (by rw [e]))⟩
theorem grown_drew {a w : World} {r : Option Nat} (h : a.grownBy w r) : a.grownBy w.drew r := ⟨h.os, h.tape, h.output, h.size, h.block⟩
theorem grown_drewN {a w : World} {r : Option Nat} (h : a.grownBy w r) (n : Nat) : a.grownBy (w.drewN n) r := ⟨h.os, h.tape, h.output, h.size, h.block⟩
theorem grown_alloc {a w : World} {r : Option Nat} (h : a.grownBy w r) (o : Obj) : a.grownBy (w.alloc o) r :=
  grown_trans h (World.grownBy_alloc w o r)
theorem grown_below {a w w' : World} {r : Option Nat} {B : Nat} (h : a.grownBy w r) (k : Below B w w') (hB : a.heap.size ≤ B) : a.grownBy w' r :=
  ⟨k.os.trans h.os, k.tape.trans h.tape, k.output.trans h.output, Nat.le_trans h.size k.size, fun i hi hr => (k.block i (Nat.lt_of_lt_of_le hi hB)).trans (h.block i hi hr)⟩
theorem below_drewN {B : Nat} {a w : World} (h : Below B a w) (n : Nat) : Below B a (w.drewN n) := ⟨h.os, h.tape, h.output, h.size, h.block⟩

theorem below_putRow {B g : Nat} {a w : World} (h : Below B a w) (hg : B ≤ g) (cs : Array Value) : Below B a (w.setRow g cs) :=
  h.trans ⟨rfl, rfl, rfl, by simp, fun k hk => setRow_other _ _ _ _ (by omega)⟩

theorem run_index_cell (w : World) (ty e : TypeId) (n i : Nat) (cs : Array Value) (v : Value) (hu : P.underlying ty = some (.array n e)) (he : (P.info? e).map (·.size) = some 1) (hu2 : (isAgg e).run P w = .ok false w) (hi : i < n) (hv : cs[i]? = some v) :
    (Instr.index ty (.agg cs) (.int .i64 (i : Int))).run P w = .ok v w := by
  have hsz : (sizeOf e).run P w = .ok 1 w := by
    cases hq : P.info? e with
    | none => simp [hq] at he
    | some q => have : q.size = 1 := by simpa [hq] using he
                simp [sizeOf, typeInfo, hq, this]
  simp [Instr.index, asIntOf, run_underlying hu, hi, hsz, part, hu2, hv]

/-! ### whole arrays in the walk -/
section
variable {ops : Array Oper} {rest : List Oper} {a : Act} {w : World} {Q : Exit → Act → World → Prop}

theorem oneAll {cs : Array Value} (h : cs.all (·.oneCell') = true) : ∀ v ∈ cs.toList, v.oneCell' = true := by
  intro v hv
  exact Array.all_eq_true'.1 h v (by simpa using hv)

/-- 'x := <an array>': a new variable, laid and filled. -/
theorem wpList_new_row {o1 o2 : Oper} (h1 : o1.guard = none) (h2 : o2.guard = none) (ty : TypeId) (d : Tmp) (x : Operand) (ho1 : o1.op = .alloc ty) (hd1 : o1.dst = some d) (ho2 : o2.op = .store ty (.tmp d) x) (hd2 : o2.dst = none)
    (g : Nat) (hg : g = w.heap.size) (cs : Array Value) (hp : (a.put (some d) (.pointer (some ⟨g, 0, none⟩))).eval (.tmp d) = .pointer (some ⟨g, 0, none⟩)) (hx : (a.put (some d) (.pointer (some ⟨g, 0, none⟩))).eval x = .agg cs) (z : Array Value) (hz : (P.info? ty).bind (·.zero) = some (.agg z)) (hs : (P.info? ty).map (·.size) = some cs.size) (hzs : z.size = cs.size)
    (hone : cs.all (·.oneCell') = true)
    (h : wpList P ops Q rest (a.put (some d) (.pointer (some ⟨g, 0, none⟩))) (w.alloc (.cells cs ty))) : wpList P ops Q (o1 :: o2 :: rest) a w := by
  subst hg
  refine wpList_plain h1 fun K hK => ?_
  cases hi : P.info? ty with
  | none => simp [hi] at hz
  | some i =>
    have hz' : i.zero = some (.agg z) := by simpa [hi] using hz
    have hs' : i.size = cs.size := by simpa [hi] using hs
    unfold Oper.wp execOp
    simp only [ho1, Sem.run_bind]
    have hal : (Instr.alloc ty true (.tuple #[])).run P w = .ok (.pointer (some ⟨w.heap.size, 0, none⟩)) (w.alloc (.cells z ty)) := by
      simp [Instr.alloc, zeroValue, typeInfo, hi, hz', newVar, newRow, newObj, Value.cells]
      rfl
    rw [hal]
    simp only [Result.andThen_ok]
    show K (a.put o1.dst _) _
    rw [hd1]
    refine hK _ _ ?_
    refine wpList_plain h2 fun K' hK' => ?_
    unfold Oper.wp execOp
    have hst := run_storeVar_row (P := P) (w.alloc (.cells z ty)) w.heap.size ty ty z cs (heap_alloc_last w _) (by simp [hi, hs']) hzs hone
    rw [World.setRow_alloc_new] at hst
    simp only [ho2, hp, hx, Sem.run_bind, Instr.storeAt, Instr.sureAddr, Sem.run_pure, Result.andThen_ok, hst]
    show K' ((a.put (some d) _).put o2.dst undef) _
    rw [hd2]
    exact hK' _ _ h

/-- 'x = <an array>' through the address of a whole row. -/
theorem wpList_put_arr {o : Oper} (h1 : o.guard = none) (ty : TypeId) (p x : Operand) (ho : o.op = .store ty p x) (hd : o.dst = none) (g : Nat) (t : TypeId) (old cs : Array Value)
    (hp : a.eval p = .pointer (some ⟨g, 0, none⟩)) (hx : a.eval x = .agg cs) (hr : Row w g t old) (hs : (P.info? ty).map (·.size) = some cs.size) (hzs : old.size = cs.size) (hone : cs.all (·.oneCell') = true)
    (h : wpList P ops Q rest a (w.setRow g cs)) : wpList P ops Q (o :: rest) a w := by
  refine wpList_plain h1 fun K hK => ?_
  unfold Oper.wp execOp
  simp only [ho, hp, hx, Sem.run_bind, Instr.storeAt, Instr.sureAddr, Sem.run_pure, Result.andThen_ok, run_storeVar_row w g t ty old cs hr hs hzs hone]
  show K (a.put o.dst undef) _
  rw [hd]
  exact hK _ _ h

/-- a new variable of an array's type -/
theorem wpList_alloc_row {o : Oper} (h1 : o.guard = none) (ty : TypeId) (ho : o.op = .alloc ty) (z : Array Value) (hz : (P.info? ty).bind (·.zero) = some (.agg z)) (g : Nat) (hg : g = w.heap.size)
    (h : wpList P ops Q rest (a.put o.dst (.pointer (some ⟨g, 0, none⟩))) (w.alloc (.cells z ty))) : wpList P ops Q (o :: rest) a w := by
  subst hg
  refine wpList_plain h1 fun K hK => ?_
  cases hi : P.info? ty with
  | none => simp [hi] at hz
  | some i =>
    have hz' : i.zero = some (.agg z) := by simpa [hi] using hz
    unfold Oper.wp execOp
    simp only [ho, Sem.run_bind]
    have hal : (Instr.alloc ty true (.tuple #[])).run P w = .ok (.pointer (some ⟨w.heap.size, 0, none⟩)) (w.alloc (.cells z ty)) := by
      simp [Instr.alloc, zeroValue, typeInfo, hi, hz', newVar, newRow, newObj, Value.cells]
      rfl
    rw [hal]
    exact hK _ _ h

/-- an array read out of its variable -/
theorem wpList_load_arr {o : Oper} (h1 : o.guard = none) (ty : TypeId) (x : Operand) (ho : o.op = .load ty x) (g : Nat) (t : TypeId) (cs : Array Value) {n : Nat} {e : TypeId}
    (hu : P.underlying ty = some (.array n e)) (hs : (P.info? ty).map (·.size) = some cs.size) (hx : a.eval x = .pointer (some ⟨g, 0, none⟩)) (hr : Row w g t cs)
    (h : wpList P ops Q rest (a.put o.dst (.agg cs)) w) : wpList P ops Q (o :: rest) a w :=
  wpList_load_row h1 ty x ho g hx t cs (0, 0) _ hr hu rfl hs h

/-- an argument that is boxed -/
theorem wpList_box_row {o : Oper} (h1 : o.guard = none) (ty : TypeId) (x : Operand) (ho : o.op = .box ty x) (cs : Array Value) (hx : a.eval x = .agg cs) (g : Nat) (hg : g = w.heap.size)
    (h : wpList P ops Q rest (a.put o.dst (.pointer (some ⟨g, 0, none⟩))) (w.alloc (.cells cs ty))) : wpList P ops Q (o :: rest) a w := by
  subst hg
  refine wpList_plain h1 fun K hK => ?_
  unfold Oper.wp execOp
  simp only [ho, hx, Sem.run_bind]
  have hal : (Instr.box ty (.agg cs)).run P w = .ok (.pointer (some ⟨w.heap.size, 0, none⟩)) (w.alloc (.cells cs ty)) := by
    simp [Instr.box, newVar, newRow, newObj, Value.cells]
    rfl
  rw [hal]
  exact hK _ _ h

/-- 'arr[i]' of an array that is a value -/
theorem wpList_index_run {o : Oper} (h1 : o.guard = none) (ty : TypeId) (x i : Operand) (ho : o.op = .index ty x i) (vx vi v : Value) (hx : a.eval x = vx) (hi : a.eval i = vi)
    (hrun : (Instr.index ty vx vi).run P w = .ok v w) (h : wpList P ops Q rest (a.put o.dst v) w) : wpList P ops Q (o :: rest) a w := by
  refine wpList_plain h1 fun K hK => ?_
  unfold Oper.wp execOp
  simp only [ho, hx, hi, Sem.run_bind, hrun]
  exact hK _ _ h

/-- the end of a function whose one result is an array that lies in memory -/
theorem ret_arr {fn : Func} {R : Ending → World → Prop} {p : Tmp} {ty : TypeId} (h : fn.results = #[.cell p ty]) (g : Nat) (t : TypeId) (cs : Array Value) {n : Nat} {e : TypeId} (hu : P.underlying ty = some (.array n e)) (hs : (P.info? ty).map (·.size) = some cs.size)
    (hr : Row w g t cs) (hp : a.tmps.getD p undef = .pointer (some ⟨g, 0, none⟩)) (hd : a.defers = []) (hR : R (.returned (.agg cs)) w) : bodyPost P fn R .ret a w :=
  bodyPost_ret (results_cell_row h a.tmps w g t cs (0, 0) _ hp hr hu rfl hs) hd hR

theorem add_zero (g l : Nat) : (⟨g, 0, none⟩ : Addr).add l = ⟨g, l, none⟩ := by
  unfold Addr.add
  split
  · subst_vars; rfl
  · simp

/-- 'arr[lo:]' of an array in memory, elements of one cell -/
theorem wpList_slice_lo {o : Oper} (h1 : o.guard = none) (ty : TypeId) (x lo : Operand) (ho : o.op = .slice ty x (some lo) none none) (n : Nat) (e : TypeId) (hu : P.underlying ty = some (.array n e)) (hs : (P.info? e).map (·.size) = some 1)
    (g l : Nat) {lv : Int} (hx : a.eval x = .pointer (some ⟨g, 0, none⟩)) (hlo : a.eval lo = .int .i64 lv) (hlv : lv = l) (hl : l < n)
    (h : wpList P ops Q rest (a.put o.dst (.slice (some ⟨g, l, none⟩) (n - l) (n - l))) w) : wpList P ops Q (o :: rest) a w := by
  subst hlv
  refine wpList_plain h1 fun K hK => ?_
  have hsz : (sizeOf e).run P w = .ok 1 w := by
    cases hi : P.info? e with
    | none => simp [hi] at hs
    | some i => have : i.size = 1 := by simpa [hi] using hs
                simp [sizeOf, typeInfo, hi, this]
  have hb : (Instr.sliceBound (.int .i64 (l : Int)) n .sliceB).run P w = .ok l w := by
    simp [Instr.sliceBound, asIntOf, Int.ofNat_le.2 (Nat.le_of_lt hl)]
  have hrun : (Instr.sliceAt ty (.pointer (some ⟨g, 0, none⟩)) (some (.int .i64 (l : Int))) none none).run P w = .ok (.slice (some ⟨g, l, none⟩) (n - l) (n - l)) w := by
    have hne : ¬ n = l := by omega
    simp [Instr.sliceAt, Sem.run_bind, run_underlying hu, Instr.sureAddr, Instr.sliceBounds, hb, hsz, hne, add_zero]
  unfold Oper.wp execOp
  simp only [ho, hx, hlo, Sem.run_bind, Option.map_some, Option.map_none, hrun]
  exact hK _ _ h

/-- 'arr[lo:hi]' of an array in memory, elements of one cell -/
theorem wpList_slice_lohi {o : Oper} (h1 : o.guard = none) (ty : TypeId) (x lo hi : Operand) (ho : o.op = .slice ty x (some lo) (some hi) none) (n : Nat) (e : TypeId) (hu : P.underlying ty = some (.array n e)) (hs : (P.info? e).map (·.size) = some 1)
    (g l u : Nat) {lv uv : Int} (hx : a.eval x = .pointer (some ⟨g, 0, none⟩)) (hlo : a.eval lo = .int .i64 lv) (hhi : a.eval hi = .int .i64 uv) (hlv : lv = l) (huv : uv = u) (hl : l ≤ u) (hu' : u ≤ n) (hln : l < n)
    (h : wpList P ops Q rest (a.put o.dst (.slice (some ⟨g, l, none⟩) (u - l) (n - l))) w) : wpList P ops Q (o :: rest) a w := by
  subst hlv
  subst huv
  refine wpList_plain h1 fun K hK => ?_
  have hsz : (sizeOf e).run P w = .ok 1 w := by
    cases hi : P.info? e with
    | none => simp [hi] at hs
    | some i => have : i.size = 1 := by simpa [hi] using hs
                simp [sizeOf, typeInfo, hi, this]
  have hb : (Instr.sliceBound (.int .i64 (l : Int)) u .sliceB).run P w = .ok l w := by
    simp [Instr.sliceBound, asIntOf, Int.ofNat_le.2 hl]
  have hb2 : (Instr.sliceBound (.int .i64 (u : Int)) n .sliceAlen).run P w = .ok u w := by
    simp [Instr.sliceBound, asIntOf, Int.ofNat_le.2 hu']
  have hrun : (Instr.sliceAt ty (.pointer (some ⟨g, 0, none⟩)) (some (.int .i64 (l : Int))) (some (.int .i64 (u : Int))) none).run P w = .ok (.slice (some ⟨g, l, none⟩) (u - l) (n - l)) w := by
    have hne : ¬ n = l := by omega
    simp [Instr.sliceAt, Sem.run_bind, run_underlying hu, Instr.sureAddr, Instr.sliceBounds, hb, hb2, hsz, hne, add_zero]
  unfold Oper.wp execOp
  simp only [ho, hx, hlo, hhi, Sem.run_bind, Option.map_some, Option.map_none, hrun]
  exact hK _ _ h
end
end Go.Fen
