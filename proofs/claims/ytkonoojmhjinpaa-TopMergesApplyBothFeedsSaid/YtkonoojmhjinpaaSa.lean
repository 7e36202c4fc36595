/- Contracts for the fixed example: Eval, Match of two predicates. Contracts for the fixed example: meets, verdict. Contracts for the fixed example: meets, verdict, Check. Contracts for the fixed example: Run. Contracts for the fixed example: Rebase. The fixed example, plainly. Contracts: sanity32. -/
import Derived.Test.YtkonoojmhjinpaaMh
import Derived.Test.YtkonoojmhjinpaaMm
import Derived.Test.YtkonoojmhjinpaaSt
set_option linter.all false
namespace Go.Proofs.Ytkonoojmhjinpaa
open Go.RowKit Go.Fen
set_option linter.unusedVariables false
set_option maxHeartbeats 4000000

/-- a predicate that holds its operator alone -/
def prC (op : Int) : List Value := [.int .i64 op, .int .i64 0, .int .i64 0, .int .i64 0, .slice none 0 0, .string ⟨#[]⟩, .slice none 0 0]
theorem Try.z62 : (Try.prog.info? 62).bind (·.zero) = some (.agg #[.int .i64 0, .int .i64 0, .int .i64 0, .int .i64 0, .slice none 0 0, .string ⟨#[]⟩, .slice none 0 0]) := by kernel_rfl
theorem Try.n62 : (Try.prog.info? 62).map (·.size) = some 7 := by kernel_rfl
/-- a predicate and a row, boxed -/
theorem pr_box (w : World) (op : Int) (v : Value) : ∃ (g : Nat) (W0 W1 : World), g = w.heap.size ∧ W0 = w.alloc (.cells #[.int .i64 op, .int .i64 0, .int .i64 0, .int .i64 0, .slice none 0 0, .string ⟨#[]⟩, .slice none 0 0] 62) ∧ W1 = W0.alloc (.cells #[v] 43) ∧ W0.heap.size = g + 1 ∧ Below w.heap.size w W1 ∧ Row W1 g 62 #[.int .i64 op, .int .i64 0, .int .i64 0, .int .i64 0, .slice none 0 0, .string ⟨#[]⟩, .slice none 0 0] ∧ Row W1 (g + 1) 43 #[v] := by
  have z0 : (w.alloc (.cells #[.int .i64 op, .int .i64 0, .int .i64 0, .int .i64 0, .slice none 0 0, .string ⟨#[]⟩, .slice none 0 0] 62)).heap.size = w.heap.size + 1 := by simp
  exact ⟨w.heap.size, _, _, rfl, rfl, rfl, z0, ((Below.refl _ _).alloc (Nat.le_refl _) _).alloc (by simp) _, (Row.new w 62 _).alloc _, Row.new' 43 _ z0.symm⟩
theorem some_nil (fv : Value) (w : World) : Calls Try.prog 71 #[.slice none 0 0, .int .i64 1, fv] w fun e w' => e = .returned (.int .i64 0) ∧ w' = w := by
  go_enter Try.func71, Try.ntmps71
  go_wp2_with fail
  go_loopw [15, 7] (fun iv ov wx => iv = .int .i64 0 ∧ ov = .int .i64 0 ∧ wx = w) (fun _ _ _ => 0)
  case atStart => exact ⟨rfl, rfl, rfl⟩
  case round =>
    obtain ⟨rfl, rfl, hwx⟩ := hrel
    obtain rfl := hwx.symm
    go_wp2_with fail
    first | go_ret | ((try simp only [Exit.inBlock, Exit.then]); go_ret)
    exact ⟨rfl, rfl⟩
set_option maxRecDepth 20000 in
theorem eval_true (r : Rv) (w : World) : Calls Try.prog 57 #[.agg #[.int .i64 0, .int .i64 0, .int .i64 0, .int .i64 0, .slice none 0 0, .string ⟨#[]⟩, .slice none 0 0], .agg #[rvv r]] w fun e w' => e = .returned (.int .i64 1) ∧ Below w.heap.size w w' := by
  obtain ⟨g, W0, W1, eg, hW0, hW1, z0, b0, R0, R1⟩ := pr_box w 0 (rvv r)
  have k0 : W1.cell? ⟨g, 0, none⟩ = some (.int .i64 0) := R0.cell 0
  have HW0 := Lib.hid hW0
  have HW1 := Lib.hid hW1
  have EG := Lib.hid eg
  have Z0 := Lib.hid z0
  have HB := Lib.hid b0
  clear hW0 hW1 eg z0 b0 R0 R1
  go_enter Try.func57, Try.ntmps57
  go_wp2_with (first | ((with_reducible show wpList _ _ _ (Oper.mk _ (Op.box _ _) _ _ _ _ :: _) _ _); (first | (refine wpList_box_row rfl 62 (.tmp 0) rfl _ rfl g EG.out ?_; refine wpList_atE HW0.out ?_) | (refine wpList_box_row rfl 43 (.tmp 1) rfl _ rfl (g + 1) Z0.out.symm ?_; refine wpList_atE HW1.out ?_))))
  first | go_ret | ((try simp only [Exit.inBlock, Exit.then]); go_ret)
  exact ⟨rfl, HB.out⟩
set_option maxRecDepth 20000 in
theorem eval_or (r : Rv) (w : World) : Calls Try.prog 57 #[.agg #[.int .i64 6, .int .i64 0, .int .i64 0, .int .i64 0, .slice none 0 0, .string ⟨#[]⟩, .slice none 0 0], .agg #[rvv r]] w fun e w' => e = .returned (.int .i64 0) ∧ Below w.heap.size w w' := by
  obtain ⟨g, W0, W1, eg, hW0, hW1, z0, b0, R0, R1⟩ := pr_box w 6 (rvv r)
  have k0 : W1.cell? ⟨g, 0, none⟩ = some (.int .i64 6) := R0.cell 0
  have k6 : W1.cell? ⟨g, 6, none⟩ = some (.slice none 0 0) := R0.cell 6
  have HW0 := Lib.hid hW0
  have HW1 := Lib.hid hW1
  have EG := Lib.hid eg
  have Z0 := Lib.hid z0
  have HB := Lib.hid b0
  clear hW0 hW1 eg z0 b0 R0 R1
  go_enter Try.func57, Try.ntmps57
  go_wp2_with (first | ((with_reducible show wpList _ _ _ (Oper.mk _ (Op.box _ _) _ _ _ _ :: _) _ _); (first | (refine wpList_box_row rfl 62 (.tmp 0) rfl _ rfl g EG.out ?_; refine wpList_atE HW0.out ?_) | (refine wpList_box_row rfl 43 (.tmp 1) rfl _ rfl (g + 1) Z0.out.symm ?_; refine wpList_atE HW1.out ?_))))
  refine (some_nil _ _).mono ?_
  rintro e w2 ⟨rfl, hw2⟩
  subst w2
  go_wp2_with fail
  first | go_ret | ((try simp only [Exit.inBlock, Exit.then]); go_ret)
  exact ⟨rfl, HB.out⟩
set_option maxRecDepth 20000 in
theorem match_any (op x : Int) (hop : (op = 0 ∧ x = 1) ∨ (op = 6 ∧ x = 0)) (r : Rv) (w : World) : Calls Try.prog 38 #[.agg #[.int .i64 op, .int .i64 0, .int .i64 0, .int .i64 0, .slice none 0 0, .string ⟨#[]⟩, .slice none 0 0], .agg #[rvv r]] w fun e w' => e = .returned (.bool (x == 1)) ∧ Below w.heap.size w w' := by
  obtain ⟨g, W0, W1, eg, hW0, hW1, z0, b0, R0, R1⟩ := pr_box w op (rvv r)
  have HC : Hid (Calls Try.prog 57 #[.agg #[.int .i64 op, .int .i64 0, .int .i64 0, .int .i64 0, .slice none 0 0, .string ⟨#[]⟩, .slice none 0 0], .agg #[rvv r]] W1 fun e w' => e = .returned (.int .i64 x) ∧ Below W1.heap.size W1 w') := Lib.hid (by
    rcases hop with ⟨rfl, rfl⟩ | ⟨rfl, rfl⟩
    · exact eval_true r W1
    · exact eval_or r W1)
  have HW0 := Lib.hid hW0
  have HW1 := Lib.hid hW1
  have EG := Lib.hid eg
  have Z0 := Lib.hid z0
  have HB := Lib.hid b0
  have HR0 := Lib.hid R0
  have k0 : W1.cell? ⟨g + 1, 0, none⟩ = some (rvv r) := R1.cell 0
  clear hW0 hW1 eg z0 b0 R0 R1 hop
  go_enter Try.func38, Try.ntmps38
  go_wp2_with (first | ((with_reducible show wpList _ _ _ (Oper.mk _ (Op.box _ _) _ _ _ _ :: _) _ _); (first | (refine wpList_box_row rfl 62 (.tmp 0) rfl _ rfl g EG.out ?_; refine wpList_atE HW0.out ?_) | (refine wpList_box_row rfl 43 (.tmp 1) rfl _ rfl (g + 1) Z0.out.symm ?_; refine wpList_atE HW1.out ?_))) | ((with_reducible show wpList _ _ _ (Oper.mk _ (Op.load _ _) _ _ _ _ :: _) _ _); (refine wpList_load_row rfl 62 (.tmp 2) rfl g rfl 62 #[.int .i64 op, .int .i64 0, .int .i64 0, .int .i64 0, .slice none 0 0, .string ⟨#[]⟩, .slice none 0 0] (0, 0) _ HR0.out Try.underlying62 rfl Try.n62 ?_)))
  refine HC.out.mono ?_
  rintro e w2 ⟨rfl, hb⟩
  go_wp2_with fail
  first | go_ret | ((try simp only [Exit.inBlock, Exit.then]); go_ret)
  exact ⟨rfl, bel_tr HB.out hb⟩
end Go.Proofs.Ytkonoojmhjinpaa

set_option linter.all false
namespace Go.Proofs.Ytkonoojmhjinpaa
open Go.RowKit Go.Fen
set_option linter.unusedVariables false
set_option maxHeartbeats 4000000

def prA (op : Int) : Array Value := #[.int .i64 op, .int .i64 0, .int .i64 0, .int .i64 0, .slice none 0 0, .string ⟨#[]⟩, .slice none 0 0]
set_option maxRecDepth 20000 in
theorem meets11_any (op x : Int) (hop : (op = 0 ∧ x = 1) ∨ (op = 6 ∧ x = 0)) (e0 : Ev) (gp : Nat) (w : World) (hr : Rok w e0.r) (hp : Row w gp 62 (prA op)) :
    Calls Try.prog 79 #[.agg #[.int .i64 e0.k, .int .i64 e0.n, rvv e0.r], .pointer (some ⟨gp, 0, none⟩)] w fun e w' => e = .returned (.bool (x == 1)) ∧ Below w.heap.size w w' := by
  obtain ⟨g, eg⟩ : ∃ g, g = w.heap.size := ⟨_, rfl⟩
  obtain ⟨W0, hW0⟩ : ∃ W, W = w.alloc (.cells #[.int .i64 e0.k, .int .i64 e0.n, rvv e0.r] 71) := ⟨_, rfl⟩
  have b0 : Below w.heap.size w W0 := by rw [hW0]; exact (Below.refl _ _).alloc (Nat.le_refl _) _
  have R0 : Row W0 g 71 #[.int .i64 e0.k, .int .i64 e0.n, rvv e0.r] := by rw [hW0, eg]; exact Row.new w 71 _
  have k2 : W0.cell? ⟨g, 2, none⟩ = some (rvv e0.r) := R0.cell 2
  have HP := Lib.hid (hp.below b0 hp.lt)
  have HC := Lib.hid (match_any op x hop e0.r W0)
  have HW0 := Lib.hid hW0
  have EG := Lib.hid eg
  have HB := Lib.hid b0
  clear hW0 eg b0 R0 hr hp hop
  go_enter Try.func79, Try.ntmps79
  go_wp2_with (first | ((with_reducible show wpList _ _ _ (Oper.mk _ (Op.box _ _) _ _ _ _ :: _) _ _); (refine wpList_box_row rfl 71 (.tmp 0) rfl _ rfl g EG.out ?_; refine wpList_atE HW0.out ?_)) | ((with_reducible show wpList _ _ _ (Oper.mk _ (Op.load _ _) _ _ _ _ :: _) _ _); (refine wpList_load_row rfl 62 (.tmp 1) rfl gp rfl 62 #[.int .i64 op, .int .i64 0, .int .i64 0, .int .i64 0, .slice none 0 0, .string ⟨#[]⟩, .slice none 0 0] (0, 0) _ HP.out Try.underlying62 rfl Try.n62 ?_)))
  refine HC.out.mono ?_
  rintro e w2 ⟨rfl, hb⟩
  go_wp2_with fail
  first | go_ret | ((try simp only [Exit.inBlock, Exit.then]); go_ret)
  exact ⟨rfl, bel_tr HB.out hb⟩
/-- the index of an event that meets the predicate: none for 'or' of nothing, the first for 'true' -/
def idxM (x : Int) (n : Nat) : Int := if x = 1 ∧ 0 < n then 0 else -1
set_option maxRecDepth 20000 in
theorem indexEv_no (a : Option Addr) (E : List Ev) (n c gp : Nat) (w : World) (hn : n = E.length) (hE : Evs w a E) (hL : n ≤ 10000) (hp : Row w gp 62 (prA 6)) :
    Calls Try.prog 85 #[.slice a n c, .func (.func 79) #[] #[.pointer (some ⟨gp, 0, none⟩)]] w fun e w' => e = .returned (.int .i64 (-1)) ∧ Below w.heap.size w w' := by
  have HE := Lib.hid hE
  have HN := Lib.hid hn
  have HC := Lib.hid (fun (w' : World) (hbl : Below w.heap.size w w') (l : Ev) (hl : l ∈ E) => meets11_any 6 0 (.inr ⟨rfl, rfl⟩) l gp w' ((hE.2 l hl).bel hbl) (hp.below hbl hp.lt))
  clear hE hn hp
  go_enter Try.func85, Try.ntmps85
  go_wp2_with fail
  go_loopw [8] (fun iv wr => ∃ (k : Nat), k ≤ n ∧ iv = .int .i64 k ∧ Below w.heap.size w wr) (fun iv _ => n - (intOf iv).toNat)
  case atStart => exact ⟨0, by omega, rfl, Below.refl _ _⟩
  case round =>
    obtain ⟨k, hk, rfl, hbl⟩ := hrel
    have HBL := Lib.hid hbl
    by_cases hkn : k < n
    · have ki : (k : Int) < (n : Int) := by omega
      obtain ⟨gl, ol, rfl, hgl, hc⟩ := HE.out.1.form (by rw [← HN.out]; omega)
      obtain ⟨l, hl⟩ : ∃ f, E[k]? = some f := ⟨_, List.getElem?_eq_getElem (by rw [← HN.out]; omega)⟩
      have hrg := range_below (hc k l hl) hbl hgl
      have c0 : wr.cell? ⟨gl, ol + k * 3, none⟩ = some (.int .i64 l.k) := by have := hrg 0 _ rfl; rw [Nat.add_zero] at this; exact this
      have c1 : wr.cell? ⟨gl, ol + k * 3 + 1, none⟩ = some (.int .i64 l.n) := hrg 1 _ rfl
      have c2 : wr.cell? ⟨gl, ol + k * 3 + 2, none⟩ = some (rvv l.r) := hrg 2 _ rfl
      have HCL := Lib.hid (HC.out wr hbl l (List.mem_of_getElem? hl))
      have HKN := Lib.hid hkn
      clear hc hgl hl hrg hbl hkn hk
      go_wp2_with fail
      refine HCL.out.mono ?_
      rintro e w2 ⟨rfl, hb2⟩
      have HB2 := Lib.hid (HBL.out.trans (hb2.mono HBL.out.size))
      clear hb2
      go_wp2_with fail
      go_roundw
      case rel => exact ⟨k + 1, HKN.out, by go_num, HB2.out⟩
      case measure => have := HKN.out; simp [intOf] <;> omega
    · have ki : ¬ (k : Int) < (n : Int) := by omega
      clear hbl
      go_wp2_with fail
      first | go_ret | ((try simp only [Exit.inBlock, Exit.then]); go_ret)
      exact ⟨rfl, HBL.out⟩
set_option maxRecDepth 20000 in
theorem indexEv_yes (a : Option Addr) (E : List Ev) (n c gp : Nat) (w : World) (hn : n = E.length) (hn0 : 0 < n) (hE : Evs w a E) (hL : n ≤ 10000) (hp : Row w gp 62 (prA 0)) :
    Calls Try.prog 85 #[.slice a n c, .func (.func 79) #[] #[.pointer (some ⟨gp, 0, none⟩)]] w fun e w' => e = .returned (.int .i64 0) ∧ Below w.heap.size w w' := by
  have HC := Lib.hid (fun (l : Ev) (hl : l ∈ E) => meets11_any 0 1 (.inl ⟨rfl, rfl⟩) l gp w (hE.2 l hl) hp)
  obtain ⟨gl, ol, rfl, hgl, hc⟩ := hE.1.form (by rw [← hn]; exact hn0)
  obtain ⟨l, hl⟩ : ∃ f, E[0]? = some f := ⟨_, List.getElem?_eq_getElem (by rw [← hn]; omega)⟩
  have hrg := hc 0 l hl
  rw [Nat.zero_mul, Nat.add_zero] at hrg
  have c0 : w.cell? ⟨gl, ol, none⟩ = some (.int .i64 l.k) := by have := hrg 0 _ rfl; rw [Nat.add_zero] at this; exact this
  have c1 : w.cell? ⟨gl, ol + 1, none⟩ = some (.int .i64 l.n) := hrg 1 _ rfl
  have c2 : w.cell? ⟨gl, ol + 2, none⟩ = some (rvv l.r) := hrg 2 _ rfl
  have HCL := Lib.hid (HC.out l (List.mem_of_getElem? hl))
  have ni : (0 : Int) < (n : Int) := by omega
  clear hE hn hp hc hl hrg hgl
  go_enter Try.func85, Try.ntmps85
  go_wp2_with fail
  go_loopw [8] (fun iv wr => iv = .int .i64 0 ∧ wr = w) (fun iv _ => 0)
  case atStart => exact ⟨rfl, rfl⟩
  case round =>
    obtain ⟨rfl, hwx⟩ := hrel
    obtain rfl := hwx.symm
    go_wp2_with fail
    refine HCL.out.mono ?_
    rintro e w2 ⟨rfl, hb2⟩
    go_wp2_with fail
    first | go_ret | ((try simp only [Exit.inBlock, Exit.then]); go_ret)
    exact ⟨rfl, hb2⟩
end Go.Proofs.Ytkonoojmhjinpaa

set_option linter.all false
namespace Go.Proofs.Ytkonoojmhjinpaa
open Go.RowKit Go.Fen
set_option linter.unusedVariables false
set_option maxHeartbeats 4000000

theorem Try.n66 : (Try.prog.info? 66).map (·.size) = some 16 := by kernel_rfl
theorem Try.z66 : (Try.prog.info? 66).bind (·.zero) = some (.agg #[.int .i64 0, .int .i64 0, .int .i64 0, .int .i64 0, .slice none 0 0, .string ⟨#[]⟩, .slice none 0 0, .int .i64 0, .int .i64 0, .int .i64 0, .int .i64 0, .slice none 0 0, .string ⟨#[]⟩, .slice none 0 0, .slice none 0 0, .slice none 0 0]) := by kernel_rfl
/-- the fixed program: it reads nothing, removes all, adds rows -/
def pgA (ad : Option Addr) (n c : Nat) : Array Value := #[.int .i64 6, .int .i64 0, .int .i64 0, .int .i64 0, .slice none 0 0, .string ⟨#[]⟩, .slice none 0 0, .int .i64 0, .int .i64 0, .int .i64 0, .int .i64 0, .slice none 0 0, .string ⟨#[]⟩, .slice none 0 0, .slice ad n c, .slice none 0 0]
theorem containsEv (op : Int) (b : Bool) (hop : (op = 0 ∧ b = true) ∨ (op = 6 ∧ b = false)) (a : Option Addr) (E : List Ev) (n c gp : Nat) (w : World) (hn : n = E.length) (hn0 : 0 < n) (hE : Evs w a E) (hL : n ≤ 10000) (hp : Row w gp 62 (prA op)) :
    Calls Try.prog 78 #[.slice a n c, .func (.func 79) #[] #[.pointer (some ⟨gp, 0, none⟩)]] w fun e w' => e = .returned (.bool b) ∧ Below w.heap.size w w' := by
  rcases hop with ⟨rfl, rfl⟩ | ⟨rfl, rfl⟩
  · have HC := Lib.hid (indexEv_yes a E n c gp w hn hn0 hE hL hp)
    clear hn hE hp hL hn0
    go_enter Try.func78, Try.ntmps78
    go_wp2_with fail
    refine HC.out.mono ?_
    rintro e w2 ⟨rfl, hb2⟩
    go_wp2_with fail
    first | go_ret | ((try simp only [Exit.inBlock, Exit.then]); go_ret)
    exact ⟨rfl, hb2⟩
  · have HC := Lib.hid (indexEv_no a E n c gp w hn hE hL hp)
    clear hn hE hp hL hn0
    go_enter Try.func78, Try.ntmps78
    go_wp2_with fail
    refine HC.out.mono ?_
    rintro e w2 ⟨rfl, hb2⟩
    go_wp2_with fail
    first | go_ret | ((try simp only [Exit.inBlock, Exit.then]); go_ret)
    exact ⟨rfl, hb2⟩
set_option maxRecDepth 20000 in
theorem meets1_any (op : Int) (b : Bool) (hop : (op = 0 ∧ b = true) ∨ (op = 6 ∧ b = false)) (a : Option Addr) (E : List Ev) (n c gb : Nat) (w : World) (hn : n = E.length) (hn0 : 0 < n) (hE : Evs w a E) (hL : n ≤ 10000) (hb : w.cell? ⟨gb, 0, none⟩ = some (.slice a n c)) (hgb : gb < w.heap.size) :
    Calls Try.prog 77 #[.agg #[.int .i64 op, .int .i64 0, .int .i64 0, .int .i64 0, .slice none 0 0, .string ⟨#[]⟩, .slice none 0 0], .pointer (some ⟨gb, 0, none⟩)] w fun e w' => e = .returned (.bool b) ∧ Below w.heap.size w w' := by
  obtain ⟨g, eg⟩ : ∃ g, g = w.heap.size := ⟨_, rfl⟩
  obtain ⟨W0, hW0⟩ : ∃ W, W = w.alloc (.cells #[.int .i64 op, .int .i64 0, .int .i64 0, .int .i64 0, .slice none 0 0, .string ⟨#[]⟩, .slice none 0 0] 62) := ⟨_, rfl⟩
  have b0 : Below w.heap.size w W0 := by rw [hW0]; exact (Below.refl _ _).alloc (Nat.le_refl _) _
  have R0 : Row W0 g 62 (prA op) := by rw [hW0, eg]; exact Row.new w 62 _
  have k0 : W0.cell? ⟨gb, 0, none⟩ = some (.slice a n c) := (b0.cell (p := ⟨gb, 0, none⟩) hgb).trans hb
  have HC := Lib.hid (containsEv op b hop a E n c g W0 hn hn0 (hE.bel b0) hL R0)
  have HW0 := Lib.hid hW0
  have EG := Lib.hid eg
  have HB := Lib.hid b0
  clear hW0 eg b0 R0 hE hb hn hop
  go_enter Try.func77, Try.ntmps77
  go_wp2_with (first | ((with_reducible show wpList _ _ _ (Oper.mk _ (Op.box _ _) _ _ _ _ :: _) _ _); (refine wpList_box_row rfl 62 (.tmp 0) rfl _ rfl g EG.out ?_; refine wpList_atE HW0.out ?_)))
  refine HC.out.mono ?_
  rintro e w2 ⟨rfl, hb⟩
  go_wp2_with fail
  first | go_ret | ((try simp only [Exit.inBlock, Exit.then]); go_ret)
  exact ⟨rfl, bel_tr HB.out hb⟩
theorem meets_any (a : Option Addr) (n c : Nat) (w : World) :
    Calls Try.prog 58 #[.slice a n c] w fun e w' => e = .returned (.func (.func 77) #[] #[.pointer (some ⟨w.heap.size, 0, none⟩)]) ∧ w' = w.alloc (.cells #[.slice a n c] 46) := by
  go_enter Try.func58, Try.ntmps58
  go_wp2_with fail
  first | go_ret | ((try simp only [Exit.inBlock, Exit.then]); go_ret)
  exact ⟨rfl, rfl⟩
set_option maxRecDepth 20000 in
theorem verdict_any (ad : Option Addr) (na ca : Nat) (a : Option Addr) (E : List Ev) (n c : Nat) (w : World) (hn : n = E.length) (hn0 : 0 < n) (hE : Evs w a E) (hL : n ≤ 10000) :
    Calls Try.prog 39 #[.agg (pgA ad na ca), .slice a n c] w fun e w' => e = .returned (.int .i64 2) ∧ Below w.heap.size w w' := by
  obtain ⟨g, eg⟩ : ∃ g, g = w.heap.size := ⟨_, rfl⟩
  obtain ⟨W0, hW0⟩ : ∃ W, W = w.alloc (.cells (pgA ad na ca) 66) := ⟨_, rfl⟩
  have z0 : W0.heap.size = g + 1 := by rw [hW0, eg]; simp
  obtain ⟨W1, hW1⟩ : ∃ W, W = W0.alloc (.cells #[.slice a n c] 46) := ⟨_, rfl⟩
  have b0 : Below w.heap.size w W1 := by rw [hW1, hW0]; exact ((Below.refl _ _).alloc (Nat.le_refl _) _).alloc (by simp) _
  have R0 : Row W1 g 66 (pgA ad na ca) := by rw [hW1, hW0, eg]; exact (Row.new w 66 _).alloc _
  have R1 : Row W1 (g + 1) 46 #[.slice a n c] := by rw [hW1]; exact Row.new' 46 _ z0.symm
  have HW0 := Lib.hid hW0
  have HW1 := Lib.hid hW1
  have Z0 := Lib.hid z0
  have EG := Lib.hid eg
  have HB := Lib.hid b0
  have HR0 := Lib.hid R0
  have HC1 := Lib.hid (meets1_any 6 false (.inr ⟨rfl, rfl⟩) a E n c (g + 1) W1 hn hn0 (hE.bel b0) hL (R1.cell 0) R1.lt)
  have HC2 := Lib.hid (fun X (h : Below W1.heap.size W1 X) => meets1_any 0 true (.inl ⟨rfl, rfl⟩) a E n c (g + 1) X hn hn0 ((hE.bel b0).bel h) hL ((R1.below h R1.lt).cell 0) (Nat.lt_of_lt_of_le R1.lt h.size))
  clear hW0 hW1 z0 eg b0 R0 R1 hE hn hn0 hL
  go_enter Try.func39, Try.ntmps39
  go_wp2_with (first | ((with_reducible show wpList _ _ _ (Oper.mk _ (Op.box _ _) _ _ _ _ :: _) _ _); (refine wpList_box_row rfl 66 (.tmp 0) rfl _ rfl g EG.out ?_; refine wpList_atE HW0.out ?_)))
  refine (meets_any a n c W0).mono ?_
  rintro e w2 ⟨rfl, hw2⟩
  rw [Z0.out]
  rw [← HW1.out] at hw2
  subst w2
  go_wp2_with (first | ((with_reducible show wpList _ _ _ (Oper.mk _ (Op.load _ _) _ _ _ _ :: _) _ _); refine wpList_load_mid rfl 62 (.tmp 10) rfl g 0 rfl [.int .i64 6, .int .i64 0, .int .i64 0, .int .i64 0, .slice none 0 0, .string ⟨#[]⟩, .slice none 0 0] _ (by intro j v hv; rw [Nat.zero_add]; refine (HR0.out.cell j).trans ?_; match j, hv with | 0, hv => exact hv | 1, hv => exact hv | 2, hv => exact hv | 3, hv => exact hv | 4, hv => exact hv | 5, hv => exact hv | 6, hv => exact hv | (n + 7), hv => cases hv) Try.underlying62 rfl Try.n62 ?_))
  refine HC1.out.mono ?_
  rintro e w3 ⟨rfl, hb3⟩
  have HB3 := Lib.hid hb3
  have HR3 := Lib.hid (HR0.out.below hb3 HR0.out.lt)
  clear hb3
  go_wp2_with (first | ((with_reducible show wpList _ _ _ (Oper.mk _ (Op.load _ _) _ _ _ _ :: _) _ _); refine wpList_load_mid rfl 62 (.tmp 15) rfl g 7 rfl [.int .i64 0, .int .i64 0, .int .i64 0, .int .i64 0, .slice none 0 0, .string ⟨#[]⟩, .slice none 0 0] _ (by intro j v hv; refine (HR3.out.cell (7 + j)).trans ?_; match j, hv with | 0, hv => exact hv | 1, hv => exact hv | 2, hv => exact hv | 3, hv => exact hv | 4, hv => exact hv | 5, hv => exact hv | 6, hv => exact hv | (n + 7), hv => cases hv) Try.underlying62 rfl Try.n62 ?_))
  refine (HC2.out w3 HB3.out).mono ?_
  rintro e w4 ⟨rfl, hb4⟩
  go_wp2_with fail
  first | go_ret | ((try simp only [Exit.inBlock, Exit.then]); go_ret)
  exact ⟨rfl, bel_tr HB.out (bel_tr HB3.out hb4)⟩
set_option maxRecDepth 20000 in
theorem check_any (ad : Option Addr) (na ca : Nat) (N : Int) (a1 : Option Addr) (n1 c1 : Nat) (w : World) :
    Calls Try.prog 37 #[.agg (pgA ad na ca), .agg #[.int .i64 N, .slice a1 n1 c1]] w fun e w' => e = .returned (.tuple #[.int .i64 0, .int .i64 0]) ∧ Below w.heap.size w w' := by
  obtain ⟨g, eg⟩ : ∃ g, g = w.heap.size := ⟨_, rfl⟩
  obtain ⟨W0, hW0⟩ : ∃ W, W = w.alloc (.cells (pgA ad na ca) 66) := ⟨_, rfl⟩
  obtain ⟨W1, hW1⟩ : ∃ W, W = W0.alloc (.cells #[.int .i64 N, .slice a1 n1 c1] 38) := ⟨_, rfl⟩
  have z0 : W0.heap.size = g + 1 := by rw [hW0, eg]; simp
  have b0 : Below w.heap.size w W1 := by rw [hW1, hW0]; exact ((Below.refl _ _).alloc (Nat.le_refl _) _).alloc (by simp) _
  have R0 : Row W1 g 66 (pgA ad na ca) := by rw [hW1, hW0, eg]; exact (Row.new w 66 _).alloc _
  have k15 : W1.cell? ⟨g, 15, none⟩ = some (.slice none 0 0) := R0.cell 15
  have HW0 := Lib.hid hW0
  have HW1 := Lib.hid hW1
  have Z0 := Lib.hid z0
  have EG := Lib.hid eg
  have HB := Lib.hid b0
  clear hW0 hW1 z0 eg b0 R0
  go_enter Try.func37, Try.ntmps37
  go_wp2_with (first | ((with_reducible show wpList _ _ _ (Oper.mk _ (Op.box _ _) _ _ _ _ :: _) _ _); (first | (refine wpList_box_row rfl 66 (.tmp 0) rfl _ rfl g EG.out ?_; refine wpList_atE HW0.out ?_) | (refine wpList_box_row rfl 38 (.tmp 1) rfl _ rfl (g + 1) Z0.out.symm ?_; refine wpList_atE HW1.out ?_))))
  go_loopw [12] (fun iv wx => iv = .int .i64 0 ∧ wx = W1) (fun _ _ => 0)
  case atStart => exact ⟨rfl, rfl⟩
  case round =>
    obtain ⟨rfl, hwx⟩ := hrel
    obtain rfl := hwx.symm
    go_wp2_with fail
    first | go_ret2 | ((try simp only [Exit.inBlock, Exit.then]); go_ret2)
    exact ⟨rfl, HB.out⟩
end Go.Proofs.Ytkonoojmhjinpaa

set_option linter.all false
namespace Go.Proofs.Ytkonoojmhjinpaa
open Go.RowKit Go.Fen
set_option linter.unusedVariables false
set_option maxHeartbeats 8000000

set_option maxRecDepth 20000 in
theorem run_any (ad : Option Addr) (ca : Nat) (r : Rv) (v : Value) (N : Int) (L : List Ln) (w : World) (hT : Tb w v N L) (h0 : 0 ≤ N) (h1 : N ≤ 1000000) (hL : L.length ≤ 1000) (hA : Rws w ad [r]) :
    Calls Try.prog 14 #[.agg (pgA ad 1 ca), v] w fun e w' => (∃ v', e = .returned (.tuple #[v', .int .i64 0]) ∧ Tb w' v' (N + 1) [⟨N, r⟩]) ∧ Below w.heap.size w w' := by
  obtain ⟨a1, c1, rfl, hcap, hLs⟩ := hT
  obtain ⟨n1, hn1⟩ : ∃ n, n = L.length := ⟨_, rfl⟩
  rw [← hn1] at hL ⊢
  obtain ⟨g, eg⟩ : ∃ g, g = w.heap.size := ⟨_, rfl⟩
  obtain ⟨W0, hW0⟩ : ∃ W, W = w.alloc (.cells (pgA ad 1 ca) 66) := ⟨_, rfl⟩
  obtain ⟨W1, hW1⟩ : ∃ W, W = W0.alloc (.cells #[.int .i64 N, .slice a1 n1 c1] 38) := ⟨_, rfl⟩
  obtain ⟨W2, hW2⟩ : ∃ W, W = W1.alloc (.cells #[.int .i64 0, .slice none 0 0] 38) := ⟨_, rfl⟩
  have z0 : W0.heap.size = g + 1 := by rw [hW0, eg]; simp
  have z1 : W1.heap.size = g + 1 + 1 := by rw [hW1, World.size_alloc, z0]
  have b0 : Below w.heap.size w W2 := by rw [hW2, hW1, hW0]; exact (((Below.refl _ _).alloc (Nat.le_refl _) _).alloc (by simp) _).alloc (by simp <;> omega) _
  have R0 : Row W2 g 66 (pgA ad 1 ca) := by rw [hW2, hW1, hW0, eg]; exact ((Row.new w 66 _).alloc _).alloc _
  have R1 : Row W2 (g + 1) 38 #[.int .i64 N, .slice a1 n1 c1] := by rw [hW2, hW1]; exact (Row.new' 38 _ z0.symm).alloc _
  have R2 : Row W2 (g + 1 + 1) 38 #[.int .i64 0, .slice none 0 0] := by rw [hW2]; exact Row.new' 38 _ z1.symm
  have HR := Lib.hid (show Row W2 g 66 (pgA ad 1 ca) ∧ Row W2 (g + 1) 38 #[.int .i64 N, .slice a1 n1 c1] ∧ Row W2 (g + 1 + 1) 38 #[.int .i64 0, .slice none 0 0] from ⟨R0, R1, R2⟩)
  have k10 : W2.cell? ⟨g + 1, 0, none⟩ = some (.int .i64 N) := R1.cell 0
  have k11 : W2.cell? ⟨g + 1, 1, none⟩ = some (.slice a1 n1 c1) := R1.cell 1
  have HC := Lib.hid (check_any ad 1 ca N a1 n1 c1 W2)
  have HLS := Lib.hid (hLs.bel b0)
  have HAD := Lib.hid (hA.bel b0)
  have HW0 := Lib.hid hW0
  have HW1 := Lib.hid hW1
  have HW2 := Lib.hid hW2
  have Z0 := Lib.hid z0
  have Z1 := Lib.hid z1
  have EG := Lib.hid eg
  have HB := Lib.hid b0
  have HN1 := Lib.hid hn1
  clear hW0 hW1 hW2 z0 z1 eg b0 R0 R1 R2 hLs hA hcap hn1
  go_enter Try.func14, Try.ntmps14
  go_wp2_with (first | ((with_reducible show wpList _ _ _ (Oper.mk _ (Op.box _ _) _ _ _ _ :: _) _ _); (first | (refine wpList_box_row rfl 66 (.tmp 0) rfl _ rfl g EG.out ?_; refine wpList_atE HW0.out ?_) | (refine wpList_box_row rfl 38 (.tmp 1) rfl _ rfl (g + 1) Z0.out.symm ?_; refine wpList_atE HW1.out ?_))) | ((with_reducible show wpList _ _ _ (Oper.mk _ (Op.alloc _) _ _ _ _ :: _) _ _); (refine wpList_alloc_row rfl 38 rfl #[.int .i64 0, .slice none 0 0] Try.z38 (g + 1 + 1) Z1.out.symm ?_; refine wpList_atE HW2.out ?_)) | ((with_reducible show wpList _ _ _ (Oper.mk _ (Op.load _ _) _ _ _ _ :: _) _ _); (refine wpList_load_row rfl 66 (.tmp 2) rfl g rfl 66 (pgA ad 1 ca) (0, 0) _ HR.out.1 Try.underlying66 rfl Try.n66 ?_)))
  refine HC.out.mono ?_
  rintro e w3 ⟨rfl, hb3⟩
  obtain ⟨gv, hgv⟩ : ∃ z, z = w3.heap.size := ⟨_, rfl⟩
  obtain ⟨V0, hV0⟩ : ∃ W, W = w3.alloc (.cells #[.int .i64 N, .slice none 0 0] 38) := ⟨_, rfl⟩
  have b3 : Below w3.heap.size w3 V0 := by rw [hV0]; exact (Below.refl _ _).alloc (Nat.le_refl _) _
  have RV : Row V0 gv 38 #[.int .i64 N, .slice none 0 0] := by rw [hV0]; exact Row.new' 38 _ hgv
  have b23 := bel_tr hb3 b3
  have HA0 := Lib.hid (show AccG V0 gv 38 (mkT (N + ((0 : Nat) : Int))) 45 2 (.slice none 0 0) (([Ln.mk N r]).take 0).length ((([Ln.mk N r]).take 0).flatMap lnc) V0 from ⟨World.ownsRow_nil _ _ _ _, by simpa [mkT] using RV, grown_refl _ _⟩)
  have HV := Lib.hid (show Row V0 g 66 (pgA ad 1 ca) ∧ Row V0 (g + 1) 38 #[.int .i64 N, .slice a1 n1 c1] ∧ Row V0 (g + 1 + 1) 38 #[.int .i64 0, .slice none 0 0] ∧ Row V0 gv 38 #[.int .i64 N, .slice none 0 0] ∧ g + 1 + 1 < gv from ⟨HR.out.1.below b23 HR.out.1.lt, HR.out.2.1.below b23 HR.out.2.1.lt, HR.out.2.2.below b23 HR.out.2.2.lt, RV, by rw [hgv]; exact Nat.lt_of_lt_of_le HR.out.2.2.lt hb3.size⟩)
  have k30 : w3.cell? ⟨g + 1, 0, none⟩ = some (.int .i64 N) := (HR.out.2.1.below hb3 HR.out.2.1.lt).cell 0
  have k31 : V0.cell? ⟨g + 1, 1, none⟩ = some (.slice a1 n1 c1) := HV.out.2.1.cell 1
  have HBV := Lib.hid (bel_tr HB.out b23)
  have HLV := Lib.hid (HLS.out.bel b23)
  have HADV := Lib.hid (HAD.out.bel b23)
  have HGV := Lib.hid hgv
  have HV0 := Lib.hid hV0
  clear hgv hV0 b3 RV b23 hb3 k10 k11
  go_wp2_with (first | ((with_reducible show wpList _ _ _ (Oper.mk _ (Op.alloc _) _ _ _ _ :: _) _ _); (refine wpList_new_row rfl rfl 38 8 (.tmp 25) rfl rfl rfl rfl gv HGV.out #[.int .i64 N, .slice none 0 0] rfl rfl _ Try.z38 Try.n38 rfl (by simp [Value.oneCell']) ?_; refine wpList_atE HV0.out ?_)))
  clear k30 k31
  go_loopw [29] (fun iv wr => ∃ (k : Nat), k ≤ n1 ∧ iv = .int .i64 k ∧ Below V0.heap.size V0 wr) (fun iv _ => n1 - (intOf iv).toNat)
  case atStart => exact ⟨0, by omega, rfl, Below.refl _ _⟩
  case round =>
    obtain ⟨k, hk, rfl, hbl⟩ := hrel
    have HBL := Lib.hid hbl
    by_cases hkn : k < n1
    · have ki : (k : Int) < (n1 : Int) := by omega
      obtain ⟨gl, ol, rfl, hgl, hc⟩ := HLV.out.1.form (by rw [← HN1.out]; omega)
      obtain ⟨l, hl⟩ : ∃ f, L[k]? = some f := ⟨_, List.getElem?_eq_getElem (by rw [← HN1.out]; omega)⟩
      have hrg := range_below (hc k l hl) hbl hgl
      have c0 : wr.cell? ⟨gl, ol + k * 2, none⟩ = some (.int .i64 l.n) := by have := hrg 0 _ rfl; rw [Nat.add_zero] at this; exact this
      have c1 : wr.cell? ⟨gl, ol + k * 2 + 1, none⟩ = some (rvv l.r) := hrg 1 _ rfl
      obtain ⟨gx, hgx⟩ : ∃ z, z = wr.heap.size := ⟨_, rfl⟩
      obtain ⟨W5, hW5⟩ : ∃ W, W = wr.alloc (.cells #[.int .i64 l.n, rvv l.r] 45) := ⟨_, rfl⟩
      have b5 : Below wr.heap.size wr W5 := by rw [hW5]; exact (Below.refl _ _).alloc (Nat.le_refl _) _
      have R5 : Row W5 gx 45 #[.int .i64 l.n, rvv l.r] := by rw [hW5]; exact Row.new' 45 _ hgx
      have m1 : W5.cell? ⟨gx, 1, none⟩ = some (rvv l.r) := R5.cell 1
      have HB5 := Lib.hid (hbl.trans (b5.mono hbl.size))
      have RP := Lib.hid (HV.out.1.below HB5.out HV.out.1.lt)
      have HCM := Lib.hid (match_any 0 1 (.inl ⟨rfl, rfl⟩) l.r W5)
      have HX := Lib.hid hgx
      have HW5 := Lib.hid hW5
      have HKN := Lib.hid hkn
      clear hgx hW5 b5 R5 hrg hc hl hgl hbl hkn hk
      go_wp2_with (first | ((with_reducible show wpList _ _ _ (Oper.mk _ (Op.alloc _) _ _ _ _ :: _) _ _); (refine wpList_new_row rfl rfl 45 10 (.tmp 32) rfl rfl rfl rfl gx HX.out #[.int .i64 l.n, rvv l.r] rfl rfl _ Try.z45 Try.n45 rfl (by simp [Value.oneCell', rvv]) ?_; refine wpList_atE HW5.out ?_)) | ((with_reducible show wpList _ _ _ (Oper.mk _ (Op.load _ _) _ _ _ _ :: _) _ _); refine wpList_load_mid rfl 62 (.tmp 33) rfl g 7 rfl [.int .i64 0, .int .i64 0, .int .i64 0, .int .i64 0, .slice none 0 0, .string ⟨#[]⟩, .slice none 0 0] _ (by intro j v hv; refine (RP.out.cell (7 + j)).trans ?_; match j, hv with | 0, hv => exact hv | 1, hv => exact hv | 2, hv => exact hv | 3, hv => exact hv | 4, hv => exact hv | 5, hv => exact hv | 6, hv => exact hv | (n + 7), hv => cases hv) Try.underlying62 rfl Try.n62 ?_))
      refine HCM.out.mono ?_
      rintro e w6 ⟨rfl, hb6⟩
      have HB6 := Lib.hid (HB5.out.trans (hb6.mono HB5.out.size))
      clear hb6
      go_wp2_with fail
      go_roundw
      case rel => exact ⟨k + 1, HKN.out, by go_num, HB6.out⟩
      case measure => have := HKN.out; simp [intOf] <;> omega
    · have ki : ¬ (k : Int) < (n1 : Int) := by omega
      have HA1 := Lib.hid (HA0.out.call hbl)
      have R0 := HV.out.1.below hbl HV.out.1.lt
      have R1 := HV.out.2.1.below hbl HV.out.2.1.lt
      have q1 : wr.cell? ⟨gv, 1, none⟩ = some (.slice none 0 0) := HA1.out.2.1.cell 1
      have q2 : wr.cell? ⟨g, 14, none⟩ = some (.slice ad 1 ca) := R0.cell 14
      have q3 : wr.cell? ⟨g + 1, 0, none⟩ = some (.int .i64 N) := R1.cell 0
      clear hbl R0 R1 hk hkn
      obtain ⟨gr, or, rfl, hgr, hcr⟩ := HADV.out.1.form (by simp)
      go_wp2_with fail
      clear q1 q2 q3
      obtain ⟨wo, hwo⟩ : ∃ x, x = wr := ⟨_, rfl⟩
      subst hwo
      go_loopw [67] (fun iv wr => ∃ (k : Nat) (u : Value), k ≤ 1 ∧ iv = .int .i64 k ∧ AccG V0 gv 38 (mkT (N + (k : Int))) 45 2 u (([Ln.mk N r]).take k).length ((([Ln.mk N r]).take k).flatMap lnc) wr) (fun iv _ => 1 - (intOf iv).toNat)
      case atStart => exact ⟨0, _, by omega, rfl, HA1.out⟩
      case round =>
        obtain ⟨k, u, hk, rfl, hA⟩ := hrel
        have HA := Lib.hid hA
        have BA := hA.bel (B := gv) (Nat.le_refl _) (Nat.le_of_lt HV.out.2.2.2.1.lt)
        have HBw := Lib.hid (show Below w.heap.size w wr from HBV.out.trans (BA.mono (by have := HV.out.2.2.2.2; have := EG.out; omega)))
        have HRR := Lib.hid (HV.out.2.2.1.below BA (by have := HV.out.2.2.2.2; omega))
        rcases (show k = 0 ∨ k = 1 by omega) with rfl | rfl
        · have k40 : wr.cell? ⟨gv, 0, none⟩ = some (.int .i64 N) := by have q := hA.2.1.cell 0; simp [mkT] at q; exact q
          have k41 : wr.cell? ⟨gv, 1, none⟩ = some u := hA.2.1.cell 1
          have cr0 : wr.cell? ⟨gr, or, none⟩ = some (rvv r) := by
            have h1 := (Lt.but (g := gv) (t := 38) (z := _) HADV.out.1 HV.out.2.2.2.1 (by decide) hA.2.2.size (fun q hq hne => hA.2.2.block q hq (by intro e; exact hne (Option.some.inj e))))
            obtain ⟨g', o', e', _, hc'⟩ := h1.form (by simp)
            injection e' with e'
            injection e' with e1 e2
            subst e1 e2
            have := hc' 0 r rfl 0 _ rfl
            simpa using this
          obtain ⟨gx, hgx⟩ : ∃ z, z = wr.heap.size := ⟨_, rfl⟩
          obtain ⟨W5, hW5⟩ : ∃ W, W = wr.alloc (.cells #[rvv r] 43) := ⟨_, rfl⟩
          have b5 : Below wr.heap.size wr W5 := by rw [hW5]; exact (Below.refl _ _).alloc (Nat.le_refl _) _
          have R5 : Row W5 gx 43 #[rvv r] := by rw [hW5]; exact Row.new' 43 _ hgx
          have HA5 := Lib.hid (HA.out.call b5)
          have m0 : W5.cell? ⟨gx, 0, none⟩ = some (rvv r) := R5.cell 0
          have m1 : W5.cell? ⟨gv, 1, none⟩ = some u := HA5.out.2.1.cell 1
          have m2 : W5.cell? ⟨gv, 0, none⟩ = some (.int .i64 N) := by have q := HA5.out.2.1.cell 0; simp [mkT] at q; exact q
          have HX := Lib.hid hgx
          have HW5 := Lib.hid hW5
          clear hgx hW5 b5 R5 hA BA hgr hcr k40 k41
          go_upto_region 17 with (first | ((with_reducible show wpList _ _ _ (Oper.mk _ (Op.alloc _) _ _ _ _ :: _) _ _); (refine wpList_new_row rfl rfl 43 12 (.tmp 70) rfl rfl rfl rfl gx HX.out #[rvv r] rfl rfl _ Try.z43 Try.n43 rfl (by simp [Value.oneCell', rvv]) ?_; refine wpList_atE HW5.out ?_)) | ((with_reducible show wpList _ _ _ (Oper.mk _ (Op.call _) _ _ _ _ :: _) _ _); (refine wpList_pushK rfl (.tmp 72) (.tmp 77) 36 45 rfl _ 2 32 Try.underlying36 Try.info45 rfl (by decide) (by decide) V0.heap.size u 0 [] rfl W5 _ (lnc (Ln.mk N r)) rfl (one_lnc _) rfl HA5.out.1 HA5.out.2.2.size W5.heap.size rfl rfl (by omega) (fun ge ce w' hv' hg => ?_); obtain ⟨hrow, hAF⟩ := AccG.push HA5.out HV.out.2.2.2.1.lt ((Below.refl _ _).alloc (Nat.le_refl _) _) hv' hg 1 rfl; have z3 : w'.cell? ⟨gv, 1, none⟩ = some u := hrow.cell 1; have z4 := hrow.frozen 1; have HAF := Lib.hid hAF; clear hAF hrow hv' hg)))
          try simp only [Act.put, List.setIfInBounds_toArray, List.set_cons_zero, List.set_cons_succ]
          obtain ⟨w8, hw8⟩ : ∃ x, x = w'.setCell ⟨gv, 1, none⟩ (.slice (some ⟨ge, 0, none⟩) 1 ce) := ⟨_, rfl⟩
          have HAG : Hid (AccG V0 gv 38 (mkT (N + ((0 : Nat) : Int))) 45 2 (.slice (some ⟨ge, 0, none⟩) 1 ce) 1 (lnc (Ln.mk N r)) w8) := by rw [hw8]; exact HAF
          rw [← hw8]
          have kN0 : w8.cell? ⟨gv, 0, none⟩ = some (.int .i64 N) := by have q := HAG.out.2.1.cell 0; simp [mkT] at q; exact q
          have kN1 := HAG.out.2.1.frozen 0
          clear HAF hw8 z3 z4 m0 m1 m2 cr0
          go_wp2_with fail
          go_roundw
          case rel => exact ⟨1, _, by omega, by go_num, HAG.out.turn HV.out.2.2.2.1.lt 0 (.int .i64 (N + 1)) (mk' := mkT (N + ((1 : Nat) : Int))) (by simp [mkT])⟩
          case measure => simp [intOf] <;> omega
        · obtain ⟨ax, cx, ev, hcap, hlt⟩ := lns_put hA.1 (show g + 1 + 1 < V0.heap.size from HV.out.2.2.1.lt) #[.int .i64 (N + 1), u]
          have hokw : ∀ l ∈ [Ln.mk N r], Rok (wr.setRow (g + 1 + 1) #[.int .i64 (N + 1), u]) l.r := fun l hl => by
            rw [List.mem_singleton.1 hl]
            exact Rok.put (HA.out.rok HV.out.2.2.2.1 (by decide) (HADV.out.2 r (by simp))) HRR.out (by decide) _
          have HFIN := Lib.hid (show Tb (wr.setRow (g + 1 + 1) #[.int .i64 (N + 1), u]) (.agg #[.int .i64 (N + 1), u]) (N + 1) [⟨N, r⟩] ∧ Below w.heap.size w (wr.setRow (g + 1 + 1) #[.int .i64 (N + 1), u]) from ⟨⟨ax, cx, by rw [ev]; rfl, hcap, hlt, hokw⟩, below_putRow HBw.out (by have := EG.out; omega) _⟩)
          have HONE := Lib.hid (show (#[Value.int .i64 (N + 1), u]).all (·.oneCell') = true by rw [ev]; simp [Value.oneCell'])
          have RW : Row wr gv 38 #[.int .i64 (N + 1), u] := by have q := hA.2.1; simpa [mkT] using q
          have HRW := Lib.hid RW
          clear ev hcap hlt hokw hA BA RW hgr hcr
          go_wp2_with (first | ((with_reducible show wpList _ _ _ (Oper.mk _ (Op.load _ _) _ _ _ _ :: _) _ _); refine wpList_load_row rfl 38 (.tmp 8) rfl gv rfl 38 #[.int .i64 (N + 1), u] (0, 0) _ HRW.out Try.underlying38 rfl Try.n38 ?_) | ((with_reducible show wpList _ _ _ (Oper.mk _ (Op.store _ _ _) _ _ _ _ :: _) _ _); refine wpList_put_arr rfl 38 (.tmp 4) (.tmp 85) rfl rfl (g + 1 + 1) 38 _ #[.int .i64 (N + 1), u] rfl rfl HRR.out Try.n38 rfl HONE.out ?_))
          try simp only [Exit.inBlock, Exit.then]
          refine bodyPost_ret (results_cell_slot (p := 4) (q := 5) (ty := 38) rfl _ _ (g + 1 + 1) 38 #[.int .i64 (N + 1), u] (0, 0) _ rfl (Row.setRow HRR.out _) Try.underlying38 rfl Try.n38) rfl ?_
          exact ⟨⟨_, rfl, HFIN.out.1⟩, HFIN.out.2⟩
end Go.Proofs.Ytkonoojmhjinpaa

set_option linter.all false
namespace Go.Proofs.Ytkonoojmhjinpaa
open Go.RowKit Go.Fen
set_option linter.unusedVariables false
set_option maxHeartbeats 8000000

/-- three results: one in a slot, one that lies in memory, one in a slot -/
theorem results_slot_cell_slot {P : Program} {fn : Func} {p q r : Tmp} {ty : TypeId} (h : fn.results = #[.tmp q, .cell p ty, .tmp r]) (tmps : Array Value) (w : World) (g : Nat) (t : TypeId) (cs : Array Value) (fr : Nat × Nat) (d : TypeDesc)
    (hp : tmps.getD p undef = .pointer (some ⟨g, 0, none⟩)) (hg : w.heap[g]? = some (.cells cs t fr))
    (hu : P.underlying ty = some d) (hd : (match d with | .struct _ | .array _ _ => true | _ => false) = true) (hi : (P.info? ty).map (·.size) = some cs.size) :
    (results fn tmps).run P w = .ok (.tuple #[tmps.getD q undef, .agg cs, tmps.getD r undef]) w := by
  have hp' : tmps[p]?.getD undef = .pointer (some ⟨g, 0, none⟩) := by simpa using hp
  simp [results, h, hp', asAddr, run_loadVar_row w g t ty cs fr d hg hu hd hi]
theorem Lns.set {w : World} {a : Option Addr} {L : List Ln} {g : Nat} {z : Array Value} (h : Lns w a L) (hr : Row w g 38 z) (i : Nat) (v : Value) : Lns (w.setCell ⟨g, i, none⟩ v) a L := ⟨h.1.set hr (by decide) i v, fun l hl => (h.2 l hl).set hr (by decide) i v⟩
set_option maxRecDepth 20000 in
theorem rebase_any (ad : Option Addr) (ca : Nat) (r : Rv) (v : Value) (N : Int) (L : List Ln) (a : Option Addr) (E : List Ev) (n c : Nat) (w : World) (hT : Tb w v N L) (h0 : 0 ≤ N) (h1 : N ≤ 1000000) (hL : L.length ≤ 1000) (hA : Rws w ad [r]) (hn : n = E.length) (hn0 : 0 < n) (hE : Evs w a E) (hn1 : n ≤ 10000) :
    Calls Try.prog 15 #[.agg (pgA ad 1 ca), .slice a n c, v] w fun e w' => (∃ v', e = .returned (.tuple #[.int .i64 2, v', .int .i64 0]) ∧ Tb w' v' (N + 1) [⟨N, r⟩]) ∧ Below w.heap.size w w' := by
  have HRUN := Lib.hid (fun X (h : Below w.heap.size w X) => run_any ad ca r v N L X (hT.bel h) h0 h1 hL (hA.bel h))
  have HVER := Lib.hid (fun X (h : Below w.heap.size w X) => verdict_any ad 1 ca a E n c X hn hn0 (hE.bel h) hn1)
  obtain ⟨a1, c1, rfl, hcap, hLs⟩ := hT
  obtain ⟨n1, hn1'⟩ : ∃ n, n = L.length := ⟨_, rfl⟩
  rw [← hn1'] at HRUN ⊢
  obtain ⟨g, eg⟩ : ∃ g, g = w.heap.size := ⟨_, rfl⟩
  obtain ⟨W0, hW0⟩ : ∃ W, W = w.alloc (.cells (pgA ad 1 ca) 66) := ⟨_, rfl⟩
  obtain ⟨W1, hW1⟩ : ∃ W, W = W0.alloc (.cells #[.int .i64 N, .slice a1 n1 c1] 38) := ⟨_, rfl⟩
  obtain ⟨W2, hW2⟩ : ∃ W, W = W1.alloc (.cells #[.int .i64 0, .slice none 0 0] 38) := ⟨_, rfl⟩
  have z0 : W0.heap.size = g + 1 := by rw [hW0, eg]; simp
  have z1 : W1.heap.size = g + 1 + 1 := by rw [hW1, World.size_alloc, z0]
  have b0 : Below w.heap.size w W2 := by rw [hW2, hW1, hW0]; exact (((Below.refl _ _).alloc (Nat.le_refl _) _).alloc (by simp) _).alloc (by simp <;> omega) _
  have R0 : Row W2 g 66 (pgA ad 1 ca) := by rw [hW2, hW1, hW0, eg]; exact ((Row.new w 66 _).alloc _).alloc _
  have R1 : Row W2 (g + 1) 38 #[.int .i64 N, .slice a1 n1 c1] := by rw [hW2, hW1]; exact (Row.new' 38 _ z0.symm).alloc _
  have R2 : Row W2 (g + 1 + 1) 38 #[.int .i64 0, .slice none 0 0] := by rw [hW2]; exact Row.new' 38 _ z1.symm
  have HR := Lib.hid (show Row W2 g 66 (pgA ad 1 ca) ∧ Row W2 (g + 1) 38 #[.int .i64 N, .slice a1 n1 c1] ∧ Row W2 (g + 1 + 1) 38 #[.int .i64 0, .slice none 0 0] from ⟨R0, R1, R2⟩)
  have HC := Lib.hid (HVER.out W2 b0)
  have HW0 := Lib.hid hW0
  have HW1 := Lib.hid hW1
  have HW2 := Lib.hid hW2
  have Z0 := Lib.hid z0
  have Z1 := Lib.hid z1
  have EG := Lib.hid eg
  have HB := Lib.hid b0
  clear hW0 hW1 hW2 z0 z1 eg b0 R0 R1 R2 hLs hA hcap hn1' hn hn0 hE hn1 h0 h1 hL
  go_enter Try.func15, Try.ntmps15
  go_wp2_with (first | ((with_reducible show wpList _ _ _ (Oper.mk _ (Op.box _ _) _ _ _ _ :: _) _ _); (first | (refine wpList_box_row rfl 66 (.tmp 0) rfl _ rfl g EG.out ?_; refine wpList_atE HW0.out ?_) | (refine wpList_box_row rfl 38 (.tmp 2) rfl _ rfl (g + 1) Z0.out.symm ?_; refine wpList_atE HW1.out ?_))) | ((with_reducible show wpList _ _ _ (Oper.mk _ (Op.alloc _) _ _ _ _ :: _) _ _); (refine wpList_alloc_row rfl 38 rfl #[.int .i64 0, .slice none 0 0] Try.z38 (g + 1 + 1) Z1.out.symm ?_; refine wpList_atE HW2.out ?_)) | ((with_reducible show wpList _ _ _ (Oper.mk _ (Op.load _ _) _ _ _ _ :: _) _ _); (refine wpList_load_row rfl 66 (.tmp 3) rfl g rfl 66 (pgA ad 1 ca) (0, 0) _ HR.out.1 Try.underlying66 rfl Try.n66 ?_)))
  refine HC.out.mono ?_
  rintro e w3 ⟨rfl, hb3⟩
  have HB3 := Lib.hid (bel_tr HB.out hb3)
  have HR3 := Lib.hid (HR.out.1.below hb3 HR.out.1.lt)
  have R1 := HR.out.2.1.below hb3 HR.out.2.1.lt
  have HR2 := Lib.hid (HR.out.2.2.below hb3 HR.out.2.2.lt)
  have k0 : w3.cell? ⟨g + 1, 0, none⟩ = some (.int .i64 N) := R1.cell 0
  have k1 : w3.cell? ⟨g + 1, 1, none⟩ = some (.slice a1 n1 c1) := R1.cell 1
  have HCR := Lib.hid (HRUN.out w3 HB3.out)
  clear hb3 R1
  go_wp2_with (first | ((with_reducible show wpList _ _ _ (Oper.mk _ (Op.load _ _) _ _ _ _ :: _) _ _); (refine wpList_load_row rfl 66 (.tmp 3) rfl g rfl 66 (pgA ad 1 ca) (0, 0) _ HR3.out Try.underlying66 rfl Try.n66 ?_)))
  refine HCR.out.mono ?_
  rintro e w4 ⟨⟨v', rfl, hT'⟩, hb4⟩
  have HB4 := Lib.hid (bel_tr HB3.out hb4)
  have HR4 := Lib.hid (HR2.out.below hb4 HR2.out.lt)
  obtain ⟨a', c', rfl, hcap', hLs'⟩ := hT'
  obtain ⟨gx, hgx⟩ : ∃ z, z = w4.heap.size := ⟨_, rfl⟩
  obtain ⟨W5, hW5⟩ : ∃ W, W = w4.alloc (.cells #[.int .i64 (N + 1), .slice a' 1 c'] 38) := ⟨_, rfl⟩
  have b5 : Below w4.heap.size w4 W5 := by rw [hW5]; exact (Below.refl _ _).alloc (Nat.le_refl _) _
  have R5 : Row W5 gx 38 #[.int .i64 (N + 1), .slice a' 1 c'] := by rw [hW5]; exact Row.new' 38 _ hgx
  have m0 : W5.cell? ⟨gx, 0, none⟩ = some (.int .i64 (N + 1)) := R5.cell 0
  have m1 : W5.cell? ⟨gx, 1, none⟩ = some (.slice a' 1 c') := R5.cell 1
  have HR5 := Lib.hid (HR4.out.below b5 HR4.out.lt)
  have p0 : W5.cell? ⟨g + 1 + 1, 0, none⟩ = some (.int .i64 0) := HR5.out.cell 0
  have p1 : W5.cell? ⟨g + 1 + 1, 1, none⟩ = some (.slice none 0 0) := HR5.out.cell 1
  have p2 := HR5.out.frozen 0
  have p3 := HR5.out.frozen 1
  have HB5 := Lib.hid (bel_tr HB4.out b5)
  have HL5 := Lib.hid (hLs'.bel b5)
  have HCAP := Lib.hid hcap'
  have HX := Lib.hid hgx
  have HW5 := Lib.hid hW5
  clear hgx hW5 b5 R5 hb4 hcap' hLs' k0 k1
  go_upto_region 7 with (first | ((with_reducible show wpList _ _ _ (Oper.mk _ (Op.alloc _) _ _ _ _ :: _) _ _); (refine wpList_new_row rfl rfl 38 10 (.tmp 23) rfl rfl rfl rfl gx HX.out #[.int .i64 (N + 1), .slice a' 1 c'] rfl rfl _ Try.z38 Try.n38 rfl (by simp [Value.oneCell']) ?_; refine wpList_atE HW5.out ?_)))
  go_region
  all_goals
    (try go_wp2_with fail)
    (try simp only [Exit.inBlock, Exit.then])
    refine bodyPost_ret (results_slot_cell_slot (p := 7) (q := 6) (r := 8) (ty := 38) rfl _ _ (g + 1 + 1) 38 #[.int .i64 (N + 1), .slice a' 1 c'] (0, 0) _ rfl (show Row _ _ _ _ from ((HR5.out.drew).set 0 (.int .i64 (N + 1))).set 1 (.slice a' 1 c')) Try.underlying38 rfl Try.n38) rfl ?_
    have hd := below_drewN (Below.refl W5.heap.size W5) 1
    refine ⟨⟨_, rfl, a', c', rfl, HCAP.out, ?_⟩, ?_⟩
    · exact ((HL5.out.bel hd).set HR5.out.drew 0 _).set (HR5.out.drew.set 0 _) 1 _
    · exact ((HB5.out.trans (hd.mono HB5.out.size)).setCell (show w.heap.size ≤ (⟨g + 1 + 1, 0, none⟩ : Addr).block by have := EG.out; show w.heap.size ≤ g + 1 + 1; omega) _).setCell (show w.heap.size ≤ (⟨g + 1 + 1, 1, none⟩ : Addr).block by have := EG.out; show w.heap.size ≤ g + 1 + 1; omega) _
end Go.Proofs.Ytkonoojmhjinpaa

set_option linter.all false
namespace Go.Proofs.Ytkonoojmhjinpaa
open Go.RowKit Go.Fen
set_option linter.unusedVariables false

theorem sameS_refl (x : Option Rv) : sameS x x = true := by simp [sameS]
theorem sameS_none (r : Rv) : sameS none (some r) = false := by simp [sameS]
theorem sameS_none' (r : Rv) : sameS (some r) none = false := by simp [sameS]
def exE (r : Rv) : List Ev := [⟨2, 1, r⟩, ⟨1, 2, r⟩]
theorem ex_feed (r : Rv) : feedE [⟨1, r⟩] [⟨2, r⟩] = exE r := by
  have e : mg Ln.n Ln.n [Ln.mk 1 r] [Ln.mk 2 r] = [(1, some ⟨1, r⟩, none), (2, none, some ⟨2, r⟩)] := by simp [mg]
  unfold feedE
  rw [e]
  simp [keyM, evK, sameS_none, sameS_none', wentOf, cameOf, exE]
theorem ex_ok (r : Rv) : FeedOk (exE r) := by
  intro i x hx
  match i, hx with
  | 0, hx =>
    simp only [exE, List.getElem?_cons_zero, Option.some.injEq] at hx
    subst hx
    exact ⟨.inr rfl, show (0:Int) ≤ 1 by decide, show (1:Int) < 1000000 by decide, fun j y hj => by omega⟩
  | 1, hx =>
    simp only [exE, List.getElem?_cons_succ, List.getElem?_cons_zero, Option.some.injEq] at hx
    subst hx
    refine ⟨.inl rfl, show (0:Int) ≤ 2 by decide, show (2:Int) < 1000000 by decide, fun j y hj hy => ?_⟩
    obtain rfl : j = 0 := by omega
    simp only [exE, List.getElem?_cons_zero, Option.some.injEq] at hy
    subst hy
    exact .inl (show (1:Int) < 2 by decide)
  | i + 2, hx => simp [exE] at hx
theorem ex_items (r : Rv) : itemsK (exE r) = [(1, some r, none), (2, none, some r)] := by
  simp [itemsK, exE, stepI, setK]
theorem ex_apply (r : Rv) : applyR 2 [⟨1, r⟩] (exE r) = (3, false, [⟨2, r⟩]) := by
  unfold applyR
  rw [ex_items]
  have e : mg Ln.n (·.1) [Ln.mk 1 r] [((1 : Int), some r, (none : Option Rv)), (2, none, some r)] = [(1, some ⟨1, r⟩, some (1, some r, none)), (2, none, some (2, none, some r))] := by simp [mg]
  rw [e]
  simp [apK, apS, aft, gapOf, outOf, nextOf, sameS_refl]
  try decide
theorem ex_merge (r : Rv) : mergeR 2 [⟨1, r⟩] [⟨2, r⟩] [⟨1, r⟩] = [⟨2, r⟩] := by
  simp [mergeR, mergeF, findS, pick, sameS_none, outOf, freshL, List.dropWhile]
theorem ex_rising1 (r : Rv) : Rising 2 [⟨1, r⟩] := ⟨by simp, by simp⟩
theorem ex_rising2 (r : Rv) : Rising 3 [⟨2, r⟩] := ⟨by simp, by simp⟩
theorem lt_one {α : Type} {T : TypeId} {k : Nat} {c : α → List Value} {w : World} {g : Nat} {x : α} (h : Row w g T (c x).toArray) : Lt T k c w (some ⟨g, 0, none⟩) [x] := by
  refine .inr ⟨g, 0, rfl, h.lt, fun i y hy j v hv => ?_, _, _, h⟩
  match i, hy with
  | 0, hy =>
    simp only [List.getElem?_cons_zero, Option.some.injEq] at hy
    subst hy
    rw [show 0 + 0 * k + j = j by omega]
    refine (h.cell j).trans ?_
    simpa using hv
  | i + 1, hy => simp at hy
end Go.Proofs.Ytkonoojmhjinpaa

set_option linter.all false
namespace Go.Proofs.Ytkonoojmhjinpaa
open Go.RowKit Go.Fen
set_option linter.unusedVariables false
set_option maxHeartbeats 16000000

set_option maxRecDepth 40000 in
theorem sanity_any (w : World) : Calls Try.prog 4 #[] w fun e w' => e = .returned (.bool true) ∧ Below w.heap.size w w' := by
  obtain ⟨g, eg⟩ : ∃ g, g = w.heap.size := ⟨_, rfl⟩
  obtain ⟨W1, hW1⟩ : ∃ W, W = w.alloc (.cells #[.int .i64 1, .bool false, .int .i64 5, .string ⟨#[]⟩] 58) := ⟨_, rfl⟩
  obtain ⟨W2, hW2⟩ : ∃ W, W = W1.alloc (.cells #[.slice (some ⟨g, 0, none⟩) 1 1] 43) := ⟨_, rfl⟩
  obtain ⟨W3, hW3⟩ : ∃ W, W = W2.alloc (.cells #[.int .i64 1, .slice (some ⟨g, 0, none⟩) 1 1] 45) := ⟨_, rfl⟩
  obtain ⟨W4, hW4⟩ : ∃ W, W = W3.alloc (.cells #[.int .i64 2, .slice (some ⟨g + 2, 0, none⟩) 1 1] 38) := ⟨_, rfl⟩
  obtain ⟨W5, hW5⟩ : ∃ W, W = W4.alloc (.cells #[.slice (some ⟨g, 0, none⟩) 1 1] 43) := ⟨_, rfl⟩
  obtain ⟨W6, hW6⟩ : ∃ W, W = W5.alloc (.cells (pgA (some ⟨g + 4, 0, none⟩) 1 1) 66) := ⟨_, rfl⟩
  have z1 : W1.heap.size = g + 1 := by rw [hW1, eg]; simp
  have z2 : W2.heap.size = g + 2 := by rw [hW2, World.size_alloc, z1]
  have z3 : W3.heap.size = g + 3 := by rw [hW3, World.size_alloc, z2]
  have z4 : W4.heap.size = g + 4 := by rw [hW4, World.size_alloc, z3]
  have z5 : W5.heap.size = g + 5 := by rw [hW5, World.size_alloc, z4]
  have b0 : Below w.heap.size w W6 := by
    rw [hW6, hW5, hW4, hW3, hW2, hW1]
    exact ((((((Below.refl _ _).alloc (Nat.le_refl _) _).alloc (by simp) _).alloc (by simp <;> omega) _).alloc (by simp <;> omega) _).alloc (by simp <;> omega) _).alloc (by simp <;> omega) _
  have R1 : Row W6 g 58 #[.int .i64 1, .bool false, .int .i64 5, .string ⟨#[]⟩] := by rw [hW6, hW5, hW4, hW3, hW2, hW1, eg]; exact (((((Row.new w 58 _).alloc _).alloc _).alloc _).alloc _).alloc _
  have R2 : Row W6 (g + 1) 43 #[.slice (some ⟨g, 0, none⟩) 1 1] := by rw [hW6, hW5, hW4, hW3, hW2]; exact ((((Row.new' 43 _ z1.symm).alloc _).alloc _).alloc _).alloc _
  have R3 : Row W6 (g + 2) 45 #[.int .i64 1, .slice (some ⟨g, 0, none⟩) 1 1] := by rw [hW6, hW5, hW4, hW3]; exact (((Row.new' 45 _ z2.symm).alloc _).alloc _).alloc _
  have R4 : Row W6 (g + 3) 38 #[.int .i64 2, .slice (some ⟨g + 2, 0, none⟩) 1 1] := by rw [hW6, hW5, hW4]; exact ((Row.new' 38 _ z3.symm).alloc _).alloc _
  have R5 : Row W6 (g + 4) 43 #[.slice (some ⟨g, 0, none⟩) 1 1] := by rw [hW6, hW5]; exact (Row.new' 43 _ z4.symm).alloc _
  have R6 : Row W6 (g + 5) 66 (pgA (some ⟨g + 4, 0, none⟩) 1 1) := by rw [hW6]; exact Row.new' 66 _ z5.symm
  obtain ⟨r, hr⟩ : ∃ r : Rv, r = ⟨some ⟨g, 0, none⟩, 1, [⟨1, ⟨false, 5, ⟨#[]⟩⟩⟩]⟩ := ⟨_, rfl⟩
  have hrv : rvv r = .slice (some ⟨g, 0, none⟩) 1 1 := by rw [hr]; rfl
  have hrok : Rok W6 r := by rw [hr]; exact ⟨lt_one (x := Cl.mk 1 (Vl.mk false 5 ⟨#[]⟩)) R1, by simp⟩
  have HTT := Lib.hid (show Tb W6 (.agg #[.int .i64 2, .slice (some ⟨g + 2, 0, none⟩) 1 1]) 2 [⟨1, r⟩] from ⟨_, 1, rfl, by simp, lt_one (x := Ln.mk 1 r) (by simp only [lnc, hrv]; exact R3), fun l hl => by rw [List.mem_singleton.1 hl]; exact hrok⟩)
  have HAD := Lib.hid (show Rws W6 (some ⟨g + 4, 0, none⟩) [r] from ⟨lt_one (x := r) (by simp only [rvc, hrv]; exact R5), fun l hl => by rw [List.mem_singleton.1 hl]; exact hrok⟩)
  have HRR := Lib.hid (show Row W6 (g + 3) 38 #[.int .i64 2, .slice (some ⟨g + 2, 0, none⟩) 1 1] ∧ Row W6 (g + 5) 66 (pgA (some ⟨g + 4, 0, none⟩) 1 1) from ⟨R4, R6⟩)
  have k2 : W2.cell? ⟨g + 1, 0, none⟩ = some (.slice (some ⟨g, 0, none⟩) 1 1) := by rw [hW2]; exact (Row.new' 43 _ z1.symm).cell 0
  have k4 : W4.cell? ⟨g + 1, 0, none⟩ = some (.slice (some ⟨g, 0, none⟩) 1 1) := by rw [hW4, hW3, hW2]; exact (((Row.new' 43 _ z1.symm).alloc _).alloc _).cell 0
  have HW1 := Lib.hid hW1
  have HW2 := Lib.hid hW2
  have HW3 := Lib.hid hW3
  have HW4 := Lib.hid hW4
  have HW5 := Lib.hid hW5
  have HW6 := Lib.hid hW6
  have EG := Lib.hid eg
  have Z1 := Lib.hid z1
  have Z2 := Lib.hid z2
  have Z3 := Lib.hid z3
  have Z4 := Lib.hid z4
  have Z5 := Lib.hid z5
  have HB := Lib.hid b0
  have HC1 := Lib.hid (run_any (some ⟨g + 4, 0, none⟩) 1 r _ 2 [⟨1, r⟩] W6 HTT.out (by decide) (by decide) (by simp) HAD.out)
  clear hW1 hW2 hW3 hW4 hW5 hW6 eg z1 z2 z3 z4 z5 b0 R1 R2 R3 R4 R5 R6 hr hrv hrok
  go_enter Try.func4, Try.ntmps4
  go_wp2_with (first | ((with_reducible show wpList _ _ _ (Oper.mk _ (Op.alloc _) _ _ _ _ :: _) _ _); (first | (rw [← EG.out]; refine wpList_atE HW1.out ?_; refine wpList_new_row rfl rfl 43 1 (.tmp 18) rfl rfl rfl rfl (g + 1) Z1.out.symm #[.slice (some ⟨g, 0, none⟩) 1 1] rfl rfl _ Try.z43 Try.n43 rfl (by simp [Value.oneCell']) ?_; refine wpList_atE HW2.out ?_) | (rw [Z2.out]; refine wpList_atE HW3.out ?_; refine wpList_new_row rfl rfl 38 2 (.tmp 22) rfl rfl rfl rfl (g + 3) Z3.out.symm #[.int .i64 2, .slice (some ⟨g + 2, 0, none⟩) 1 1] rfl rfl _ Try.z38 Try.n38 rfl (by simp [Value.oneCell']) ?_; refine wpList_atE HW4.out ?_) | (rw [Z4.out]; refine wpList_atE HW5.out ?_; refine wpList_new_row rfl rfl 66 3 (.tmp 26) rfl rfl rfl rfl (g + 5) Z5.out.symm (pgA (some ⟨g + 4, 0, none⟩) 1 1) rfl rfl _ Try.z66 Try.n66 rfl (by simp [pgA, Value.oneCell']) ?_; refine wpList_atE HW6.out ?_))) | ((with_reducible show wpList _ _ _ (Oper.mk _ (Op.load _ _) _ _ _ _ :: _) _ _); (first | (refine wpList_load_row rfl 66 (.tmp 3) rfl (g + 5) rfl 66 (pgA (some ⟨g + 4, 0, none⟩) 1 1) (0, 0) _ HRR.out.2 Try.underlying66 rfl Try.n66 ?_) | (refine wpList_load_row rfl 38 (.tmp 2) rfl (g + 3) rfl 38 #[.int .i64 2, .slice (some ⟨g + 2, 0, none⟩) 1 1] (0, 0) _ HRR.out.1 Try.underlying38 rfl Try.n38 ?_))))
  refine HC1.out.mono ?_
  rintro e w7 ⟨⟨vu, rfl, hTu⟩, hb7⟩
  rw [show (2 : Int) + 1 = 3 from rfl] at hTu
  obtain ⟨au, cu, eu, hcu, hLu⟩ := id hTu
  have eu : vu = .agg #[.int .i64 3, .slice au 1 cu] := eu
  subst eu
  obtain ⟨gu, hgu⟩ : ∃ z, z = w7.heap.size := ⟨_, rfl⟩
  obtain ⟨W8, hW8⟩ : ∃ W, W = w7.alloc (.cells #[.int .i64 3, .slice au 1 cu] 38) := ⟨_, rfl⟩
  have b8 : Below w7.heap.size w7 W8 := by rw [hW8]; exact (Below.refl _ _).alloc (Nat.le_refl _) _
  have RU : Row W8 gu 38 #[.int .i64 3, .slice au 1 cu] := by rw [hW8]; exact Row.new' 38 _ hgu
  have b68 := bel_tr hb7 b8
  have HX := Lib.hid (show Row W8 (g + 3) 38 #[.int .i64 2, .slice (some ⟨g + 2, 0, none⟩) 1 1] ∧ Row W8 (g + 5) 66 (pgA (some ⟨g + 4, 0, none⟩) 1 1) ∧ Row W8 gu 38 #[.int .i64 3, .slice au 1 cu] ∧ Tb W8 (.agg #[.int .i64 2, .slice (some ⟨g + 2, 0, none⟩) 1 1]) 2 [⟨1, r⟩] ∧ Tb W8 (.agg #[.int .i64 3, .slice au 1 cu]) 3 [⟨2, r⟩] ∧ Rws W8 (some ⟨g + 4, 0, none⟩) [r] ∧ Below w.heap.size w W8 from ⟨HRR.out.1.below b68 HRR.out.1.lt, HRR.out.2.below b68 HRR.out.2.lt, RU, HTT.out.bel b68, hTu.bel b8, HAD.out.bel b68, bel_tr HB.out b68⟩)
  have HGU := Lib.hid hgu
  have HW8 := Lib.hid hW8
  have HC2 := Lib.hid (feed_any _ _ 2 3 [⟨1, r⟩] [⟨2, r⟩] W8 HX.out.2.2.2.1 HX.out.2.2.2.2.1 (ex_rising1 r) (ex_rising2 r) (by decide) (by decide) (by simp) (by simp))
  rw [ex_feed] at HC2
  clear hgu hW8 b8 RU b68 hTu hLu hcu hb7 k2 k4
  go_wp2_with (first | ((with_reducible show wpList _ _ _ (Oper.mk _ (Op.alloc _) _ _ _ _ :: _) _ _); (refine wpList_new_row rfl rfl 38 4 (.tmp 31) rfl rfl rfl rfl gu HGU.out #[.int .i64 3, .slice au 1 cu] rfl rfl _ Try.z38 Try.n38 rfl (by simp [Value.oneCell']) ?_; refine wpList_atE HW8.out ?_)) | ((with_reducible show wpList _ _ _ (Oper.mk _ (Op.load _ _) _ _ _ _ :: _) _ _); (first | (refine wpList_load_row rfl 38 (.tmp 2) rfl (g + 3) rfl 38 #[.int .i64 2, .slice (some ⟨g + 2, 0, none⟩) 1 1] (0, 0) _ HX.out.1 Try.underlying38 rfl Try.n38 ?_) | (refine wpList_load_row rfl 38 (.tmp 4) rfl gu rfl 38 #[.int .i64 3, .slice au 1 cu] (0, 0) _ HX.out.2.2.1 Try.underlying38 rfl Try.n38 ?_))))
  refine HC2.out.mono ?_
  rintro e w9 ⟨ae, ce, ne, rfl, hne, hEv, hb9⟩
  obtain rfl : ne = 2 := hne
  have HY := Lib.hid (show Row w9 (g + 3) 38 #[.int .i64 2, .slice (some ⟨g + 2, 0, none⟩) 1 1] ∧ Row w9 (g + 5) 66 (pgA (some ⟨g + 4, 0, none⟩) 1 1) ∧ Row w9 gu 38 #[.int .i64 3, .slice au 1 cu] ∧ Tb w9 (.agg #[.int .i64 2, .slice (some ⟨g + 2, 0, none⟩) 1 1]) 2 [⟨1, r⟩] ∧ Tb w9 (.agg #[.int .i64 3, .slice au 1 cu]) 3 [⟨2, r⟩] ∧ Rws w9 (some ⟨g + 4, 0, none⟩) [r] ∧ Below w.heap.size w w9 from ⟨HX.out.1.below hb9 HX.out.1.lt, HX.out.2.1.below hb9 HX.out.2.1.lt, HX.out.2.2.1.below hb9 HX.out.2.2.1.lt, HX.out.2.2.2.1.bel hb9, HX.out.2.2.2.2.1.bel hb9, HX.out.2.2.2.2.2.1.bel hb9, bel_tr HX.out.2.2.2.2.2.2 hb9⟩)
  have HEV := Lib.hid hEv
  have HC3 := Lib.hid (lapply_any _ 2 [⟨1, r⟩] ae (exE r) 2 ce w9 HY.out.2.2.2.1 (ex_rising1 r) (by decide) (by decide) (by simp) rfl hEv (ex_ok r) (by decide))
  rw [ex_apply] at HC3
  clear hEv hb9
  go_wp2_with (first | ((with_reducible show wpList _ _ _ (Oper.mk _ (Op.load _ _) _ _ _ _ :: _) _ _); (refine wpList_load_row rfl 38 (.tmp 2) rfl (g + 3) rfl 38 #[.int .i64 2, .slice (some ⟨g + 2, 0, none⟩) 1 1] (0, 0) _ HY.out.1 Try.underlying38 rfl Try.n38 ?_)))
  refine HC3.out.mono ?_
  rintro e w10 ⟨hR, hb10⟩
  rcases hR with ⟨h, _⟩ | ⟨_, vb, rfl, hTb⟩
  · cases h
  have hTb : Tb w10 vb 3 [⟨2, r⟩] := hTb
  obtain ⟨ab, cb, eb, _, _⟩ := id hTb
  have eb : vb = .agg #[.int .i64 3, .slice ab 1 cb] := eb
  subst eb
  obtain ⟨gb, hgb⟩ : ∃ z, z = w10.heap.size := ⟨_, rfl⟩
  obtain ⟨W11, hW11⟩ : ∃ W, W = w10.alloc (.cells #[.int .i64 3, .slice ab 1 cb] 38) := ⟨_, rfl⟩
  have b11 : Below w10.heap.size w10 W11 := by rw [hW11]; exact (Below.refl _ _).alloc (Nat.le_refl _) _
  have RB : Row W11 gb 38 #[.int .i64 3, .slice ab 1 cb] := by rw [hW11]; exact Row.new' 38 _ hgb
  have bb := bel_tr hb10 b11
  have HZ := Lib.hid (show Row W11 (g + 3) 38 #[.int .i64 2, .slice (some ⟨g + 2, 0, none⟩) 1 1] ∧ Row W11 (g + 5) 66 (pgA (some ⟨g + 4, 0, none⟩) 1 1) ∧ Row W11 gu 38 #[.int .i64 3, .slice au 1 cu] ∧ Tb W11 (.agg #[.int .i64 2, .slice (some ⟨g + 2, 0, none⟩) 1 1]) 2 [⟨1, r⟩] ∧ Tb W11 (.agg #[.int .i64 3, .slice au 1 cu]) 3 [⟨2, r⟩] ∧ Rws W11 (some ⟨g + 4, 0, none⟩) [r] ∧ Below w.heap.size w W11 from ⟨HY.out.1.below bb HY.out.1.lt, HY.out.2.1.below bb HY.out.2.1.lt, HY.out.2.2.1.below bb HY.out.2.2.1.lt, HY.out.2.2.2.1.bel bb, HY.out.2.2.2.2.1.bel bb, HY.out.2.2.2.2.2.1.bel bb, bel_tr HY.out.2.2.2.2.2.2 bb⟩)
  have HZ2 := Lib.hid (show Row W11 gb 38 #[.int .i64 3, .slice ab 1 cb] ∧ Tb W11 (.agg #[.int .i64 3, .slice ab 1 cb]) 3 [⟨2, r⟩] ∧ Evs W11 ae (exE r) from ⟨RB, hTb.bel b11, HEV.out.bel bb⟩)
  have HGB := Lib.hid hgb
  have HW11 := Lib.hid hW11
  have HC4 := Lib.hid (rebase_any (some ⟨g + 4, 0, none⟩) 1 r _ 3 [⟨2, r⟩] ae (exE r) 2 ce W11 HZ.out.2.2.2.2.1 (by decide) (by decide) (by simp) HZ.out.2.2.2.2.2.1 rfl (by decide) HZ2.out.2.2 (by decide))
  clear hgb hW11 b11 RB bb hTb hb10
  go_wp2_with (first | ((with_reducible show wpList _ _ _ (Oper.mk _ (Op.alloc _) _ _ _ _ :: _) _ _); (refine wpList_new_row rfl rfl 38 7 (.tmp 40) rfl rfl rfl rfl gb HGB.out #[.int .i64 3, .slice ab 1 cb] rfl rfl _ Try.z38 Try.n38 rfl (by simp [Value.oneCell']) ?_; refine wpList_atE HW11.out ?_)) | ((with_reducible show wpList _ _ _ (Oper.mk _ (Op.load _ _) _ _ _ _ :: _) _ _); (first | (refine wpList_load_row rfl 66 (.tmp 3) rfl (g + 5) rfl 66 (pgA (some ⟨g + 4, 0, none⟩) 1 1) (0, 0) _ HZ.out.2.1 Try.underlying66 rfl Try.n66 ?_) | (refine wpList_load_row rfl 38 (.tmp 4) rfl gu rfl 38 #[.int .i64 3, .slice au 1 cu] (0, 0) _ HZ.out.2.2.1 Try.underlying38 rfl Try.n38 ?_))))
  refine HC4.out.mono ?_
  rintro e w12 ⟨⟨vr, rfl, hTr⟩, hb12⟩
  rw [show (3 : Int) + 1 = 4 from rfl] at hTr
  obtain ⟨ar, cr, er, _, _⟩ := id hTr
  have er : vr = .agg #[.int .i64 4, .slice ar 1 cr] := er
  subst er
  obtain ⟨gr, hgr⟩ : ∃ z, z = w12.heap.size := ⟨_, rfl⟩
  obtain ⟨Wz, hWz⟩ : ∃ W, W = w12.alloc (.cells #[.int .i64 0, .slice none 0 0] 38) := ⟨_, rfl⟩
  obtain ⟨W13, hW13⟩ : ∃ W, W = Wz.setRow gr #[.int .i64 4, .slice ar 1 cr] := ⟨_, rfl⟩
  have Rz : Row Wz gr 38 #[.int .i64 0, .slice none 0 0] := by rw [hWz]; exact Row.new' 38 _ hgr
  have b13 : Below w12.heap.size w12 W13 := by rw [hW13, hWz, setRow_new _ _ _ _ _ hgr]; exact (Below.refl _ _).alloc (Nat.le_refl _) _
  have RR : Row W13 gr 38 #[.int .i64 4, .slice ar 1 cr] := by rw [hW13]; exact Row.setRow Rz _
  have bb := bel_tr hb12 b13
  have HV := Lib.hid (show Row W13 (g + 3) 38 #[.int .i64 2, .slice (some ⟨g + 2, 0, none⟩) 1 1] ∧ Row W13 gb 38 #[.int .i64 3, .slice ab 1 cb] ∧ Row W13 gu 38 #[.int .i64 3, .slice au 1 cu] ∧ Tb W13 (.agg #[.int .i64 2, .slice (some ⟨g + 2, 0, none⟩) 1 1]) 2 [⟨1, r⟩] ∧ Tb W13 (.agg #[.int .i64 3, .slice au 1 cu]) 3 [⟨2, r⟩] ∧ Tb W13 (.agg #[.int .i64 3, .slice ab 1 cb]) 3 [⟨2, r⟩] ∧ Below w.heap.size w W13 from ⟨HZ.out.1.below bb HZ.out.1.lt, HZ2.out.1.below bb HZ2.out.1.lt, HZ.out.2.2.1.below bb HZ.out.2.2.1.lt, HZ.out.2.2.2.1.bel bb, HZ.out.2.2.2.2.1.bel bb, HZ2.out.2.1.bel bb, bel_tr HZ.out.2.2.2.2.2.2 bb⟩)
  have HV2 := Lib.hid (show Evs W13 ae (exE r) ∧ Row W13 gr 38 #[.int .i64 4, .slice ar 1 cr] ∧ Tb W13 (.agg #[.int .i64 4, .slice ar 1 cr]) 4 [⟨3, r⟩] from ⟨HZ2.out.2.2.bel bb, RR, hTr.bel b13⟩)
  have HGR := Lib.hid hgr
  have HWz := Lib.hid hWz
  have HW13 := Lib.hid hW13
  have HRz := Lib.hid Rz
  have HC5 := Lib.hid (mmerge_any _ _ _ 2 3 2 [⟨1, r⟩] [⟨2, r⟩] [⟨1, r⟩] W13 HV.out.2.2.2.1 HV.out.2.2.2.2.1 HV.out.2.2.2.1 (ex_rising1 r) (ex_rising2 r) (ex_rising1 r) (by decide) (by decide) (by decide) (by decide) (by simp) (by simp) (by simp) (by decide) (by decide) (by simp) (by simp [findS]) (by simp) (by simp [findS, sameS_refl]))
  rw [ex_merge] at HC5
  clear hgr hWz hW13 Rz b13 RR bb hTr hb12
  go_wp2_with (first | ((with_reducible show wpList _ _ _ (Oper.mk _ (Op.alloc _) _ _ _ _ :: _) _ _); (refine wpList_alloc_row rfl 38 rfl #[.int .i64 0, .slice none 0 0] Try.z38 gr HGR.out ?_; refine wpList_atE HWz.out ?_)) | ((with_reducible show wpList _ _ _ (Oper.mk _ (Op.store _ _ _) _ _ _ _ :: _) _ _); (refine wpList_put_arr rfl 38 (.tmp 10) (.tmp 48) rfl rfl gr 38 _ #[.int .i64 4, .slice ar 1 cr] rfl rfl HRz.out Try.n38 rfl (by simp [Value.oneCell']) ?_; refine wpList_atE HW13.out ?_)) | ((with_reducible show wpList _ _ _ (Oper.mk _ (Op.load _ _) _ _ _ _ :: _) _ _); (first | (refine wpList_load_row rfl 38 (.tmp 2) rfl (g + 3) rfl 38 #[.int .i64 2, .slice (some ⟨g + 2, 0, none⟩) 1 1] (0, 0) _ HV.out.1 Try.underlying38 rfl Try.n38 ?_) | (refine wpList_load_row rfl 38 (.tmp 4) rfl gu rfl 38 #[.int .i64 3, .slice au 1 cu] (0, 0) _ HV.out.2.2.1 Try.underlying38 rfl Try.n38 ?_))))
  refine HC5.out.mono ?_
  rintro e w14 ⟨⟨vm, rfl, hTm⟩, hb14⟩
  obtain ⟨am, cm, em, _, _⟩ := id hTm
  have em : vm = .agg #[.int .i64 3, .slice am 1 cm] := em
  subst em
  obtain ⟨gm, hgm⟩ : ∃ z, z = w14.heap.size := ⟨_, rfl⟩
  obtain ⟨W15, hW15⟩ : ∃ W, W = w14.alloc (.cells #[.int .i64 3, .slice am 1 cm] 38) := ⟨_, rfl⟩
  have b15 : Below w14.heap.size w14 W15 := by rw [hW15]; exact (Below.refl _ _).alloc (Nat.le_refl _) _
  have RM : Row W15 gm 38 #[.int .i64 3, .slice am 1 cm] := by rw [hW15]; exact Row.new' 38 _ hgm
  have bb := bel_tr hb14 b15
  have HS := Lib.hid (show Row W15 gb 38 #[.int .i64 3, .slice ab 1 cb] ∧ Row W15 gu 38 #[.int .i64 3, .slice au 1 cu] ∧ Row W15 gr 38 #[.int .i64 4, .slice ar 1 cr] ∧ Row W15 gm 38 #[.int .i64 3, .slice am 1 cm] ∧ Tb W15 (.agg #[.int .i64 3, .slice au 1 cu]) 3 [⟨2, r⟩] ∧ Tb W15 (.agg #[.int .i64 3, .slice ab 1 cb]) 3 [⟨2, r⟩] ∧ Tb W15 (.agg #[.int .i64 3, .slice am 1 cm]) 3 [⟨2, r⟩] ∧ Tb W15 (.agg #[.int .i64 4, .slice ar 1 cr]) 4 [⟨3, r⟩] ∧ Evs W15 ae (exE r) ∧ Below w.heap.size w W15 from ⟨HV.out.2.1.below bb HV.out.2.1.lt, HV.out.2.2.1.below bb HV.out.2.2.1.lt, HV2.out.2.1.below bb HV2.out.2.1.lt, RM, HV.out.2.2.2.2.1.bel bb, HV.out.2.2.2.2.2.1.bel bb, hTm.bel b15, HV2.out.2.2.bel bb, HV2.out.1.bel bb, bel_tr HV.out.2.2.2.2.2.2 bb⟩)
  have HGM := Lib.hid hgm
  have HW15 := Lib.hid hW15
  clear hgm hW15 b15 RM bb hTm hb14
  obtain ⟨ge, oe, rfl, hge, hce⟩ := HS.out.2.2.2.2.2.2.2.2.1.1.form (by simp [exE])
  have x0 : W15.cell? ⟨ge, oe, none⟩ = some (.int .i64 2) := by have q := hce 0 ⟨2, 1, r⟩ rfl 0 _ rfl; simpa using q
  have x1 : W15.cell? ⟨ge, oe + 3 + 1, none⟩ = some (.int .i64 2) := by have q := hce 1 ⟨1, 2, r⟩ rfl 1 _ rfl; simpa using q
  have y0 : W15.cell? ⟨gb, 0, none⟩ = some (.int .i64 3) := HS.out.1.cell 0
  have y1 : W15.cell? ⟨gb, 1, none⟩ = some (.slice ab 1 cb) := HS.out.1.cell 1
  have y2 : W15.cell? ⟨gu, 0, none⟩ = some (.int .i64 3) := HS.out.2.1.cell 0
  have y3 : W15.cell? ⟨gu, 1, none⟩ = some (.slice au 1 cu) := HS.out.2.1.cell 1
  have HC6 := Lib.hid (sameTable_true _ _ 3 [⟨2, r⟩] [⟨2, r⟩] W15 HS.out.2.2.2.2.2.1 HS.out.2.2.2.2.1 rfl (by simp))
  clear hge hce
  go_wp2_with (first | ((with_reducible show wpList _ _ _ (Oper.mk _ (Op.alloc _) _ _ _ _ :: _) _ _); (refine wpList_new_row rfl rfl 38 12 (.tmp 55) rfl rfl rfl rfl gm HGM.out #[.int .i64 3, .slice am 1 cm] rfl rfl _ Try.z38 Try.n38 rfl (by simp [Value.oneCell']) ?_; refine wpList_atE HW15.out ?_)))
  refine HC6.out.mono ?_
  rintro e w16 ⟨rfl, hb16⟩
  obtain ⟨a4, c4, e4, _, hL4⟩ := HS.out.2.2.2.2.2.2.2.1.bel hb16
  obtain ⟨gl, ol, el, hgl, hcl⟩ := hL4.1.form (by simp)
  have e5 : a4 = ar := by simp at e4; exact e4.1.symm
  have v0 : w16.cell? ⟨gl, ol, none⟩ = some (.int .i64 3) := by have q := hcl 0 ⟨3, r⟩ rfl 0 _ rfl; simpa using q
  rw [e5] at el
  subst el
  clear x0 x1 y0 y1 y2 y3
  have y1 : w16.cell? ⟨gr, 1, none⟩ = some (.slice (some ⟨gl, ol, none⟩) 1 cr) := (HS.out.2.2.1.below hb16 HS.out.2.2.1.lt).cell 1
  have y2 : w16.cell? ⟨gu, 0, none⟩ = some (.int .i64 3) := (HS.out.2.1.below hb16 HS.out.2.1.lt).cell 0
  have y3 : w16.cell? ⟨gu, 1, none⟩ = some (.slice au 1 cu) := (HS.out.2.1.below hb16 HS.out.2.1.lt).cell 1
  have y4 : w16.cell? ⟨gm, 0, none⟩ = some (.int .i64 3) := (HS.out.2.2.2.1.below hb16 HS.out.2.2.2.1.lt).cell 0
  have y5 : w16.cell? ⟨gm, 1, none⟩ = some (.slice am 1 cm) := (HS.out.2.2.2.1.below hb16 HS.out.2.2.2.1.lt).cell 1
  have HC7 := Lib.hid (sameTable_true _ _ 3 [⟨2, r⟩] [⟨2, r⟩] w16 (HS.out.2.2.2.2.2.2.1.bel hb16) (HS.out.2.2.2.2.1.bel hb16) rfl (by simp))
  have HB16 := Lib.hid (bel_tr HS.out.2.2.2.2.2.2.2.2.2 hb16)
  clear hcl hgl hL4 e4 e5 hb16
  go_wp2_with fail
  refine HC7.out.mono ?_
  rintro e w17 ⟨rfl, hb17⟩
  go_wp2_with fail
  first | go_ret | ((try simp only [Exit.inBlock, Exit.then]); go_ret)
  exact ⟨rfl, bel_tr HB16.out hb17⟩
end Go.Proofs.Ytkonoojmhjinpaa
