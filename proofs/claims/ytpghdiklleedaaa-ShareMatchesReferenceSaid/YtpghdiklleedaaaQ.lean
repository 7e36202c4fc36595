/- Slices and lists of shares that are appended to inside a drawn region; the contracts of fits, Sum, Choose. -/
import Derived.Test.YtpghdiklleedaaaM
import Derived.Test.YtpghdiklleedaaaP
import Derived.Deep.AppendLies
import Derived.Deep.RegionLaw
import Derived.BigRegion
set_option linter.all false
namespace Go.Proofs.Ytpghdiklleedaaa
open Go.RowKit Go.Fen Gf
set_option maxHeartbeats 400000

/-- the values of bytes -/
def bvals (l : List (BitVec 8)) : List Value := l.map fun b => Value.int .u8 b.toNat
theorem length_bvals (l : List (BitVec 8)) : (bvals l).length = l.length := by simp [bvals]
theorem push_bvals (l : List (BitVec 8)) (b : BitVec 8) : bvals l ++ [.int .u8 (b.toNat : Int)] = bvals (l ++ [b]) := by simp [bvals]
theorem get_bvals (l : List (BitVec 8)) (i : Nat) (h : i < l.length) : (bvals l)[i]? = some (.int .u8 (l.getD i 0#8).toNat) := by simp [bvals, h]
/-- a slice of bytes that a call owns and appends to -/
def BufB (B : Nat) (v : Value) (l : List (BitVec 8)) (W0 w : World) : Prop := Buf B 5 v l.length (bvals l) W0 w

/-- 'out = append(out, x)' on a slice that is owned, as a step of a region that draws its order -/
theorem step_push {P : Program} {ops : Array Oper} {o : Oper} {a : Act} {K : Act → World → Prop} {Q : Exit → Act → World → Prop} {E : Prop} (hgd : o.guard = none) (s x : Operand) (t : TypeId)
    (ho : o.op = .call { callee := .builtin .append, args := #[s, x], argTypes := #[t, t] })
    (B : Nat) (e : TypeId) (z : Value) (bytes : Nat) (ht : P.underlying t = some (.slice e)) (hi : (P.info? e).map (fun i => (i.zero, i.size, i.bytes)) = some (some z, 1, bytes)) (hzs : z.cells.size = 1)
    (v : Value) (n : Nat) (xs : List Value) (hs : a.eval s = v) (W0 w0 w1 : World) (u : Value) (hu : u.oneCell' = true) (hw1 : w1 = w0.alloc (.cells #[u] e)) (hb : Buf B e v n xs W0 w0)
    (hx : a.eval x = .slice (some ⟨w0.heap.size, 0, none⟩) 1 1) (h63 : n + 1 ≤ maxLen) (hlen : (n + 1) * bytes ≤ 140737488355328)
    (h : ∀ v' w', Buf B e v' (n + 1) (xs ++ [u]) W0 w' → w1.grownBy w' v.ownBlock → (v'.ownBlock = v.ownBlock ∨ v'.ownBlock = some w1.heap.size) → K (a.put o.dst v') w') : if Region.wanted o (yielded ops a.tmps) = true then Oper.wp P o a w1 K Q else E := by
  obtain ⟨i, hi, hzz⟩ := Option.map_eq_some_iff.1 hi
  simp only [Prod.mk.injEq] at hzz
  subst hw1
  have hb' := hb.alloc (.cells #[u] e)
  refine step_append_lies _ hgd s x t ho B e i z 1 bytes ht hi hzz.1 hzz.2.1 hzz.2.2 hzs (by decide) v n xs hs hb'.1 ⟨w0.heap.size, 0, none⟩ 1 1 [u] hx rfl ?_ ?_ (by decide) h63 hlen hb'.2.2 _ rfl ?_
  · intro j y hj
    match j, hj with
    | 0, hj => simp at hj; subst hj; simp [Addr.add]
    | (j + 1), hj => simp at hj
  · intro y hy; simp at hy; subst hy; exact hu
  · intro g cap w' ho' hg hat hlt
    refine h _ w' (hb'.grown ho' hg) hg ?_
    rcases hat with h | h
    · exact .inl h.symm
    · exact .inr (by rw [h]; rfl)

theorem BufB.drew {B : Nat} {v : Value} {l : List (BitVec 8)} {W0 w : World} (h : BufB B v l W0 w) : BufB B v l W0 w.drew := Buf.drew h
theorem BufB.drewN {B : Nat} {v : Value} {l : List (BitVec 8)} {W0 w : World} (h : BufB B v l W0 w) (q : Nat) : BufB B v l W0 (w.drewN q) := Buf.drewN h q
theorem BufB.call {B : Nat} {v : Value} {l : List (BitVec 8)} {W0 w w' : World} (h : BufB B v l W0 w) (hb : Below w.heap.size w w') : BufB B v l W0 w' := Buf.call h hb
theorem step_pushB {ops : Array Oper} {o : Oper} {a : Act} {K : Act → World → Prop} {Q : Exit → Act → World → Prop} {E : Prop} (hgd : o.guard = none) (s x : Operand)
    (ho : o.op = .call { callee := .builtin .append, args := #[s, x], argTypes := #[27, 27] })
    (B : Nat) (v : Value) (l : List (BitVec 8)) (hs : a.eval s = v) (W0 w0 w1 : World) (b : BitVec 8) (hw1 : w1 = w0.alloc (.cells #[.int .u8 b.toNat] 5))
    (hx : a.eval x = .slice (some ⟨w0.heap.size, 0, none⟩) 1 1) (hb : BufB B v l W0 w0) (hlen : l.length ≤ 1000000)
    (h : ∀ v' w', BufB B v' (l ++ [b]) W0 w' → w1.grownBy w' v.ownBlock → (v'.ownBlock = v.ownBlock ∨ v'.ownBlock = some w1.heap.size) → K (a.put o.dst v') w') : if Region.wanted o (yielded ops a.tmps) = true then Oper.wp Try.prog o a w1 K Q else E :=
  step_push hgd s x 27 ho B 5 (.int .u8 0) 1 Try.underlying27 Try.info5 rfl v l.length (bvals l) hs W0 w0 w1 _ rfl hw1 hb hx (by unfold maxLen; omega) (by omega) fun v' w' h1 h2 h3 => h v' w' (by rw [BufB, List.length_append, ← push_bvals]; exact h1) h2 h3
theorem wpList_pushB {ops : Array Oper} {rest : List Oper} {o : Oper} {a : Act} {Q : Exit → Act → World → Prop} (hgd : o.guard = none) (s x : Operand)
    (ho : o.op = .call { callee := .builtin .append, args := #[s, x], argTypes := #[27, 27] })
    (B : Nat) (v : Value) (l : List (BitVec 8)) (hs : a.eval s = v) (W0 w0 w1 : World) (b : BitVec 8) (hw1 : w1 = w0.alloc (.cells #[.int .u8 b.toNat] 5))
    (hx : a.eval x = .slice (some ⟨w0.heap.size, 0, none⟩) 1 1) (hb : BufB B v l W0 w0) (hlen : l.length ≤ 1000000)
    (h : ∀ v' w', BufB B v' (l ++ [b]) W0 w' → w1.grownBy w' v.ownBlock → wpList Try.prog ops Q rest (a.put o.dst v') w') : wpList Try.prog ops Q (o :: rest) a w1 :=
  wpList_push hgd s x 27 ho B 5 (.int .u8 0) 1 Try.underlying27 Try.info5 rfl v l.length (bvals l) hs W0 w0 w1 _ rfl hw1 hb hx (by unfold maxLen; omega) (by omega) fun v' w' h1 h2 => h v' w' (by rw [BufB, List.length_append, ← push_bvals]; exact h1) h2

set_option maxHeartbeats 1000000 in
theorem sum_any (a1 a2 : Option Addr) (l1 l2 : List (BitVec 8)) (n c1 c2 : Nat) (w : World) (e1 : n = l1.length) (e2 : n = l2.length) (h1 : n ≤ 1000000) (B1 : Bs w a1 l1) (B2 : Bs w a2 l2) :
    Calls Try.prog 27 #[.slice a1 n c1, .slice a2 n c2] w fun e w' => ∃ v, e = .returned v ∧ BufB w.heap.size v (sumL l1 l2) w w' := by
  obtain ⟨B, hB⟩ : ∃ B, B = w.heap.size := ⟨_, rfl⟩
  have hfin : Hid ((List.range n).map (fun i => l1.getD i 0#8 ^^^ l2.getD i 0#8) = sumL l1 l2) := Lib.hid (by rw [sumL, e1])
  rw [← hfin.out, ← hB]
  have HB1 := Lib.hid B1
  have HB2 := Lib.hid B2
  have E1 := Lib.hid e1
  have E2 := Lib.hid e2
  have hbuf0 : BufB B (.slice (some ⟨B, 0, none⟩) 0 0) ((List.range 0).map (fun i => l1.getD i 0#8 ^^^ l2.getD i 0#8)) w (w.alloc (.cells #[] 5)) := Buf.lit (by rw [hB]; exact Below.refl _ _) (Nat.le_of_eq hB) #[] 0 rfl (by decide) B hB
  have HBB := Lib.hid hB
  clear B1 B2 e1 e2 hfin hB
  go_enter Try.func27, Try.ntmps27
  go_wp2_with fail
  rw [← HBB.out]
  generalize w.alloc (.cells #[] 5) = W1 at *
  go_loopw [5, 6] (fun v i wr => ∃ k : Nat, k ≤ n ∧ i = .int .i64 k ∧ BufB B v ((List.range k).map (fun i => l1.getD i 0#8 ^^^ l2.getD i 0#8)) w wr) (fun _ i _ => n - (intOf i).toNat)
  case atStart => exact ⟨0, by omega, rfl, hbuf0⟩
  case round =>
    clear hbuf0
    obtain ⟨k, hk, rfl, hb⟩ := hrel
    by_cases hkn : k < n
    · obtain ⟨g1, o1, ea1, k1⟩ : ∃ g o, a1 = some ⟨g, o, none⟩ ∧ w.cell? ⟨g, o + k, none⟩ = some (.int .u8 (l1.getD k 0#8).toNat) := by
        rcases HB1.out with h | ⟨g, o, e, hc⟩
        · have := E1.out; rw [h] at this; simp at this; omega
        · exact ⟨g, o, e, hc k (by rw [← E1.out]; exact hkn)⟩
      obtain ⟨g2, o2, ea2, k2⟩ : ∃ g o, a2 = some ⟨g, o, none⟩ ∧ w.cell? ⟨g, o + k, none⟩ = some (.int .u8 (l2.getD k 0#8).toNat) := by
        rcases HB2.out with h | ⟨g, o, e, hc⟩
        · have := E2.out; rw [h] at this; simp at this; omega
        · exact ⟨g, o, e, hc k (by rw [← E2.out]; exact hkn)⟩
      subst ea1
      subst ea2
      have c1 := (hb.2.1.cell (p := ⟨g1, o1 + k, none⟩) (by show g1 < B; rw [HBB.out]; exact block_lt_of_cell (a := ⟨g1, o1 + k, none⟩) k1)).trans k1
      have c2 := (hb.2.1.cell (p := ⟨g2, o2 + k, none⟩) (by show g2 < B; rw [HBB.out]; exact block_lt_of_cell (a := ⟨g2, o2 + k, none⟩) k2)).trans k2
      have hx := u8_xor_bv (l1.getD k 0#8) (l2.getD k 0#8)
      have hS : Hid (((List.range k).map (fun i => l1.getD i 0#8 ^^^ l2.getD i 0#8)) ++ [l1.getD k 0#8 ^^^ l2.getD k 0#8] = (List.range (k + 1)).map (fun i => l1.getD i 0#8 ^^^ l2.getD i 0#8)) := Lib.hid (by rw [List.range_succ, List.map_append]; rfl)
      have hbl : ((List.range k).map (fun i => l1.getD i 0#8 ^^^ l2.getD i 0#8)).length = k := by simp
      generalize ((List.range k).map (fun i => l1.getD i 0#8 ^^^ l2.getD i 0#8)) = L at *
      generalize l1.getD k 0#8 ^^^ l2.getD k 0#8 = z at *
      generalize l1.getD k 0#8 = x at *
      generalize l2.getD k 0#8 = y at *
      have ki : (k : Int) < (n : Int) := by omega
      have Hb := Lib.hid hb
      have HL := Lib.hid hbl
      clear k1 k2 hb hbl
      go_wp2_with fail
      go_region_law (refine step_pushB rfl (.tmp 14) (.tmp 24) rfl B u5 L rfl w wr.drew _ z rfl rfl Hb.out.drew (by rw [HL.out]; omega) (fun v' w' hv' _ _ => ?_))
      all_goals
        go_wp2_with fail
        go_roundw
        case rel => exact ⟨k + 1, by omega, by go_num, by rw [← hS.out]; exact hv'⟩
        case measure => simp [intOf] <;> omega
    · have hkn2 : ¬ (k : Int) < (n : Int) := by omega
      rw [show k = n by omega] at hb
      have Hb := Lib.hid hb
      clear hb
      go_wp2_with fail
      go_ret
      exact ⟨_, rfl, Hb.out⟩

/-- the end of a function with two results, the first of which lies in memory -/
theorem ret_cell_tmp {P : Program} {fn : Func} {R : Ending → World → Prop} {a : Act} {w : World} {p u : Tmp} {ty : TypeId} (h : fn.results = #[.cell p ty, .tmp u]) (g : Nat) (t : TypeId) (cs : Array Value) (d : TypeDesc) (hu : P.underlying ty = some d)
    (hd : (match d with | .struct _ | .array _ _ => true | _ => false) = true) (hs : (P.info? ty).map (·.size) = some cs.size) (hr : Row w g t cs) (hp : a.tmps.getD p undef = .pointer (some ⟨g, 0, none⟩)) (v : Value) (hv : a.tmps.getD u undef = v)
    (hdf : a.defers = []) (hR : R (.returned (.tuple #[.agg cs, v])) w) : bodyPost P fn R .ret a w := by
  refine bodyPost_ret (v := .tuple #[.agg cs, v]) ?_ hdf hR
  rw [results_cell_tmp h, hp, hv]
  simp [asAddr, run_loadVar_row w g t ty cs (0, 0) d hr hu hd hs]

theorem Try.n30 : (Try.prog.info? 30).map (·.size) = some 2 := by kernel_rfl
/-- how many shares are needed, and how many there are -/
def needN (p : Nat) : Nat := 1 + p % 8
def allN (p q : Nat) : Nat := needN p + q % 9
theorem fits_any (asl ar : Option Addr) (ls lr cs cr p q : Nat) (hp : p < 256) (hq : q < 256) (w : World) :
    Calls Try.prog 24 #[.agg #[.slice asl ls cs, .slice ar lr cr, .int .u8 p, .int .u8 q]] w fun e w' =>
      e = .returned (.tuple #[.agg #[.int .i64 (needN p), .int .i64 (allN p q)], .bool (decide (ls ≤ 40 ∧ lr ≤ 400))]) ∧ Below w.heap.size w w' := by
  obtain ⟨g, eg⟩ : ∃ g, g = w.heap.size := ⟨_, rfl⟩
  have r0 : Row ((w.alloc (.cells #[.slice asl ls cs, .slice ar lr cr, .int .u8 p, .int .u8 q] 29)).alloc (.cells #[.int .i64 0, .int .i64 0] 30)) g 29 #[.slice asl ls cs, .slice ar lr cr, .int .u8 p, .int .u8 q] := (Row.new' _ _ eg).alloc _
  have r1 : Row ((w.alloc (.cells #[.slice asl ls cs, .slice ar lr cr, .int .u8 p, .int .u8 q] 29)).alloc (.cells #[.int .i64 0, .int .i64 0] 30)) (g + 1) 30 #[.int .i64 0, .int .i64 0] := Row.new' _ _ (by simp [eg])
  have b0 : Below w.heap.size w ((w.alloc (.cells #[.slice asl ls cs, .slice ar lr cr, .int .u8 p, .int .u8 q] 29)).alloc (.cells #[.int .i64 0, .int .i64 0] 30)) := ((Below.refl _ _).alloc (Nat.le_refl _) _).alloc (by simp) _
  have e2 : (1 : Int) + (p : Int) % 8 = (needN p : Int) := by unfold needN; omega
  have e3 : (needN p : Int) + (q : Int) % 9 = (allN p q : Int) := by unfold allN; omega
  have hn8 : needN p ≤ 8 := by unfold needN; omega
  have ha16 : allN p q ≤ 16 := by unfold allN needN; omega
  generalize allN p q = A at *
  generalize needN p = N at *
  have c0 := r0.cell 0
  have c1 := r0.cell 1
  have c3 := r0.cell 3
  have d0 := r1.cell 0
  have d1 := r1.cell 1
  have f0 := r1.frozen 0
  have f1 := r1.frozen 1
  simp only [List.getElem?_toArray, List.getElem?_cons_zero, List.getElem?_cons_succ] at c0 c1 c3 d0 d1
  go_enter Try.func24, Try.ntmps24
  go_wp2
  rw [← eg]
  obtain ⟨W1, hW1⟩ : ∃ W, W = (w.alloc (.cells #[.slice asl ls cs, .slice ar lr cr, .int .u8 p, .int .u8 q] 29)).alloc (.cells #[.int .i64 0, .int .i64 0] 30) := ⟨_, rfl⟩
  rw [← hW1] at c0 c1 c3 d0 d1 f0 f1 r0 r1 b0 ⊢
  clear hW1
  have R1 := Lib.hid r1
  have Hb := Lib.hid b0
  have EG := Lib.hid eg
  clear r0 r1 b0 eg
  by_cases hl : ls ≤ 40
  · have hl1 : (ls : Int) ≤ 40 := by omega
    have hl2 : decide ((ls : Int) ≤ 40) = true := decide_eq_true hl1
    go_region
    go_wp2_with fail
    refine ret_cell_tmp rfl (g + 1) 30 #[.int .i64 N, .int .i64 A] _ Try.underlying30 rfl Try.n30 ?_ rfl _ rfl rfl ?_
    · exact ((R1.out.set 0 _).set 1 _).drew
    · refine ⟨congrArg (fun b => Ending.returned (.tuple #[.agg #[.int .i64 N, .int .i64 A], .bool b])) (decide_eq_decide.2 (by omega)), below_drewN ((Hb.out.setCell (p := ⟨g + 1, 0, none⟩) (by show w.heap.size ≤ g + 1; rw [EG.out]; omega) _).setCell (p := ⟨g + 1, 1, none⟩) (by show w.heap.size ≤ g + 1; rw [EG.out]; omega) _) 1⟩
  · have hl1 : ¬ (ls : Int) ≤ 40 := by omega
    have hl2 : decide ((ls : Int) ≤ 40) = false := decide_eq_false hl1
    go_region
    go_wp2_with fail
    refine ret_cell_tmp rfl (g + 1) 30 #[.int .i64 N, .int .i64 A] _ Try.underlying30 rfl Try.n30 ?_ rfl _ rfl rfl ?_
    · exact ((R1.out.set 0 _).set 1 _).drew
    · refine ⟨by first | rfl | exact congrArg (fun b => Ending.returned (.tuple #[.agg #[.int .i64 N, .int .i64 A], .bool b])) (decide_eq_false (by omega)).symm, below_drewN ((Hb.out.setCell (p := ⟨g + 1, 0, none⟩) (by show w.heap.size ≤ g + 1; rw [EG.out]; omega) _).setCell (p := ⟨g + 1, 1, none⟩) (by show w.heap.size ≤ g + 1; rw [EG.out]; omega) _) 1⟩
end Go.Proofs.Ytpghdiklleedaaa
