/- The contract of Combine. -/
import Derived.Test.YtpghdiklleedaaaI
import Derived.WideShapes
import Derived.Laws.Strings
set_option linter.all false
namespace Go.Proofs.Ytpghdiklleedaaa
open Go.RowKit Go.Fen Gf
set_option linter.unusedVariables false
set_option linter.unusedSimpArgs false
set_option maxHeartbeats 400000

def sortD (D : Dat) : Dat := (List.range 256).filterMap fun d => if 0 < (atF D D.length).getD d 0 then some (D.getD ((atF D D.length).getD d 0 - 1).toNat (0#8, [])) else none
theorem dat_sortS (L : List Shr) : dat (sortS L) = sortD (dat L) := by
  unfold sortS sortU sortD
  rw [dat, List.map_filterMap, length_dat]
  congr 1
  funext d
  split
  · rw [getD_dat]; rfl
  · rfl
/-- what Combine makes of shares that are sorted -/
def combV (M : Dat) (need : Nat) : Option (List (BitVec 8)) :=
  if (List.range (M.length - need)).all (fun i => decide (interpL (M.take need) (dX M (need + i)) = dB M (need + i))) then some (interpL (M.take need) 0#8) else none
def combR (D : Dat) (need : Nat) : Option (List (BitVec 8)) :=
  if well D = true ∧ need ≤ (sortD D).length then combV (sortD D) need else none

theorem combV_none (M : Dat) (need i : Nat) (hi : i < M.length - need) (h : interpL (M.take need) (dX M (need + i)) ≠ dB M (need + i)) : combV M need = none := by
  rw [combV, if_neg]
  intro hall
  rw [List.all_eq_true] at hall
  have := hall i (List.mem_range.2 hi)
  exact h (by simpa using this)
theorem combV_some (M : Dat) (need : Nat) (h : ∀ i, i < M.length - need → interpL (M.take need) (dX M (need + i)) = dB M (need + i)) : combV M need = some (interpL (M.take need) 0#8) := by
  rw [combV, if_pos]
  rw [List.all_eq_true]
  intro i hi
  simpa using h i (List.mem_range.1 hi)
theorem run_slice_hi2 (w : World) (aa : Option Addr) (l c u : Nat) (huc : u ≤ c) : (Instr.sliceAt 31 (.slice aa l c) none (some (.int .i64 (u : Int))) none).run Try.prog w = .ok (.slice aa u c) w := by
  have hsz : (sizeOf 33).run Try.prog w = .ok 2 w := by kernel_rfl
  have hb2 : (Instr.sliceBound (.int .i64 (u : Int)) c .sliceAcap).run Try.prog w = .ok u w := by
    simp [Instr.sliceBound, asIntOf, Int.ofNat_le.2 huc]
  have hadd : ∀ x : Addr, x.add 0 = x := fun x => by simp [Addr.add]
  simp [Instr.sliceAt, Instr.slice, Sem.run_bind, run_underlying Try.underlying31, Instr.sliceBounds, hb2, hsz, hadd]
theorem run_slice_lo2 (w : World) (aa : Option Addr) (l c u : Nat) (hul : u ≤ l) : (Instr.sliceAt 31 (.slice aa l c) (some (.int .i64 (u : Int))) none none).run Try.prog w = .ok (.slice (if c = u then aa else aa.map (·.add (u * 2))) (l - u) (c - u)) w := by
  have hsz : (sizeOf 33).run Try.prog w = .ok 2 w := by kernel_rfl
  have hb2 : (Instr.sliceBound (.int .i64 (u : Int)) l .sliceB).run Try.prog w = .ok u w := by
    simp [Instr.sliceBound, asIntOf, Int.ofNat_le.2 hul]
  simp [Instr.sliceAt, Instr.slice, Sem.run_bind, run_underlying Try.underlying31, Instr.sliceBounds, hb2, hsz]
theorem wpList_slice_run {P : Program} {ops : Array Oper} {rest : List Oper} {a : Act} {w : World} {Q : Exit → Act → World → Prop} {o : Oper} (h1 : o.guard = none) (ty : TypeId) (x : Operand) (lo hi : Option Operand) (ho : o.op = .slice ty x lo hi none) {vx v : Value} {vl vh : Option Value} (hx : a.eval x = vx) (hl : lo.map a.eval = vl) (hh : hi.map a.eval = vh)
    (hrun : (Instr.sliceAt ty vx vl vh none).run P w = .ok v w) (h : wpList P ops Q rest (a.put o.dst v) w) : wpList P ops Q (o :: rest) a w := by
  refine wpList_plain h1 fun K hK => ?_
  unfold Oper.wp execOp
  simp only [ho, hx, hl, hh, Sem.run_bind, Option.map_none, hrun]
  exact hK _ _ h

theorem strB_inj (a b : List (BitVec 8)) (h : strB a = strB b) : a = b := by
  have h1 := congrArg (fun x : ByteArray => x.data.toList) h
  simp only [strB, strOfNums_data, List.map_map] at h1
  have hinj : ∀ x y : BitVec 8, ((fun n : Int => UInt8.ofNat n.toNat) ∘ fun b : BitVec 8 => (b.toNat : Int)) x = ((fun n : Int => UInt8.ofNat n.toNat) ∘ fun b : BitVec 8 => (b.toNat : Int)) y → x = y := by
    intro x y hxy
    have h2 := congrArg UInt8.toNat hxy
    simp at h2
    apply BitVec.eq_of_toNat_eq
    have := x.isLt
    have := y.isLt
    omega
  exact List.map_inj_right hinj |>.1 h1
theorem exec_slice_run {P : Program} {a : Act} {o : Oper} (W : World) (ty : TypeId) (x : Operand) (lo hi : Option Operand) (ho : o.op = .slice ty x lo hi none) {vx v : Value} {vl vh : Option Value} (hx : a.eval x = vx) (hl : lo.map a.eval = vl) (hh : hi.map a.eval = vh)
    (hrun : (Instr.sliceAt ty vx vl vh none).run P W = .ok v W) : (execOp a.eval o).run P W = .ok (.value v) W := by
  unfold execOp
  simp only [ho, hx, hl, hh, Sem.run_bind, Option.map_none, hrun]
  rfl
theorem exec_field (W : World) {a : Act} {o : Oper} (x : Operand) (i : Nat) (hi : i < 2) (ho : o.op = .fieldAddr 33 x i) (g : Nat) (hx : a.eval x = .pointer (some ⟨g, 0, none⟩)) : (execOp a.eval o).run Try.prog W = .ok (.value (.pointer (some ⟨g, i, none⟩))) W := by
  unfold execOp
  simp only [ho, hx]
  have h : i = 0 ∨ i = 1 := by omega
  rcases h with rfl | rfl
  · exact (show _ = _ by kernel_rfl)
  · exact (show _ = _ by kernel_rfl)
theorem exec_load1 (W : World) {a : Act} {o : Oper} (ty : TypeId) (x : Operand) (ho : o.op = .load ty x) (hag : (isAgg ty).run Try.prog W = .ok false W) (p : Addr) (v : Value) (hx : a.eval x = .pointer (some p)) (hc : W.cell? p = some v) : (execOp a.eval o).run Try.prog W = .ok (.value v) W := by
  unfold execOp
  simp only [ho, hx, Instr.loadAt, Instr.sureAddr, Sem.run_bind, Sem.run_pure, Result.andThen_ok]
  have : (loadVar ty p).run Try.prog W = .ok v W := by
    simp [loadVar, Sem.run_bind, hag, hc]
  rw [this]
  rfl
theorem exec_func (W : World) {a : Act} {o : Oper} (f : FuncId) (x : Operand) (ho : o.op = .makeFunc (.func f) #[x] #[]) (v : Value) (hx : a.eval x = v) : (execOp a.eval o).run Try.prog W = .ok (.value (.func (.func f) #[v] #[])) W := by
  unfold execOp
  simp only [ho]
  simp [Instr.makeFunc, hx]
theorem exec_str (W : World) {a : Act} {o : Oper} (x : Operand) (ho : o.op = .convert 27 9 x) (aa : Option Addr) (l : List (BitVec 8)) (c : Nat) (hx : a.eval x = .slice aa l.length c) (hb : Bs W aa l) : (execOp a.eval o).run Try.prog W = .ok (.value (.string (strB l))) W := by
  unfold execOp
  simp only [ho, hx, Sem.run_bind]
  rw [run_conv_bytes W 27 5 9 Try.underlying27 Try.underlying5 Try.underlying9 aa l c hb]
  rfl
theorem exec_neq (W : World) {a : Act} {o : Oper} (x y : Operand) (ho : o.op = .binOp .neq 9 x y 9) (p q : List (BitVec 8)) (hx : a.eval x = .string (strB p)) (hy : a.eval y = .string (strB q)) : (execOp a.eval o).run Try.prog W = .ok (.value (.bool (decide (p ≠ q)))) W := by
  unfold execOp
  simp only [ho, hx, hy, Sem.run_bind]
  by_cases h : p = q
  · subst h
    simp [binOp, eqGuard, Op.stringOp]
  · have hs : strB p ≠ strB q := fun e => h (strB_inj p q e)
    have hs2 : ¬ (strB p).toList = (strB q).toList := fun e => hs (Go.WideShapes.bytes_inj (by rw [← ByteArray.toList_eq, ← ByteArray.toList_eq]; exact e))
    simp [binOp, eqGuard, Op.stringOp, h, hs2]

theorem Try.a5 (w : World) : (isAgg 5).run Try.prog w = .ok false w := by kernel_rfl
theorem Try.a27 (w : World) : (isAgg 27).run Try.prog w = .ok false w := by kernel_rfl
theorem call34 : Program.callable Try.prog 34 = true := by kernel_rfl
theorem wp_value {P : Program} {a : Act} {w w' : World} {K : Act → World → Prop} {Q : Exit → Act → World → Prop} {o : Oper} {d : Tmp} (hd : o.dst = some d) {v : Value} (h : (execOp a.eval o).run P w = .ok (.value v) w') (hk : K (a.put (some d) v) w') : o.wp P a w K Q := by
  unfold Oper.wp
  rw [h, Oper.upon_value, hd]
  exact hk
theorem combine_bad (a : Option Addr) (l c : Nat) (p : Int) (h : p < 1 ∨ 255 < p) (w : World) :
    Calls Try.prog 18 #[.slice a l c, .int .i64 p] w fun e w' => e = .returned (.tuple #[.slice none 0 0, .int .i64 1]) ∧ w = w' := by
  by_cases h1 : p < 1
  · have h1' : decide (p < 1) = true := decide_eq_true h1
    clear h
    go_enter Try.func18, Try.ntmps18
    go_wp2
    go_ret2
    exact ⟨rfl, rfl⟩
  · have h1' : decide (p < 1) = false := decide_eq_false h1
    have h3 : 255 < p := by omega
    have h3' : decide (255 < p) = true := decide_eq_true h3
    clear h
    go_enter Try.func18, Try.ntmps18
    go_wp2
    go_ret2
    exact ⟨rfl, rfl⟩

theorem dX_take (M : Dat) (n k : Nat) (h : k < n) : dX (M.take n) k = dX M k := by simp [dX, List.getD, List.getElem?_take, h]
theorem dat_take (M : List Shr) (n : Nat) : dat (M.take n) = (dat M).take n := by simp [dat, List.map_take]

def combPost (h0 : Nat) (D : Dat) (need : Nat) (e : Ending) (w' : World) : Prop :=
  match combR D need with
  | some r => ∃ g', e = .returned (.tuple #[.slice (some ⟨g', 0, none⟩) r.length r.length, .int .i64 0]) ∧ h0 ≤ g' ∧ Row w' g' 5 (bcells r)
  | none => e = .returned (.tuple #[.slice none 0 0, .int .i64 40])

set_option maxHeartbeats 2000000 in
theorem combine_any (a : Option Addr) (L : List Shr) (c need : Nat) (h1 : 1 ≤ need) (h2 : need ≤ 255) (hL : L.length ≤ 1000000) (hbl : ∀ i, i < L.length → (L.getD i zs).b.length ≤ 1000000) (w : World) (hs : Shs w a L) :
    Calls Try.prog 18 #[.slice a L.length c, .int .i64 need] w fun e w' => combPost w.heap.size (dat L) need e w' ∧ Below w.heap.size w w' := by
  have hord := ordered_any a L c hL w hs
  have h1i : ¬ ((need : Int) < 1) := by omega
  have h2i : ¬ ((255 : Int) < (need : Int)) := by omega
  have h1' : decide ((need : Int) < 1) = false := decide_eq_false h1i
  have h2' : decide ((255 : Int) < (need : Int)) = false := decide_eq_false h2i
  have HB := Lib.hid hbl
  obtain ⟨n, hn⟩ : ∃ n, n = L.length := ⟨_, rfl⟩
  rw [← hn] at hord hL ⊢
  have N := Lib.hid hn
  clear hs hbl hn
  go_enter Try.func18, Try.ntmps18
  go_wp2_with fail
  refine hord.mono ?_
  rintro e w1 ⟨hcase, hb1⟩
  rcases hcase with ⟨hwf, rfl⟩ | ⟨hwt, a', c', rfl, hc', hsh⟩
  · have hres : combR (dat L) need = none := by rw [combR, hwf]; simp
    go_wp2_with fail
    go_ret2
    exact ⟨by rw [combPost, hres]; rfl, hb1⟩
  · obtain ⟨m, hm⟩ : ∃ m, m = (sortS L).length := ⟨_, rfl⟩
    have hmD : m = (sortD (dat L)).length := by rw [hm, ← dat_sortS, length_dat]
    rw [← hm] at hc' ⊢
    have HM0 := Lib.hid hm
    have HMD := Lib.hid hmD
    clear hm hmD
    by_cases hmn : m < need
    · have hres : combR (dat L) need = none := by rw [combR, if_neg]; intro h; have := HMD.out; omega
      have hmi : (m : Int) < (need : Int) := by omega
      have hmi' : decide ((m : Int) < (need : Int)) = true := decide_eq_true hmi
      clear hmn
      have Hres := Lib.hid hres
      clear hres
      go_wp2_with fail
      go_ret2
      exact ⟨by rw [combPost, Hres.out]; rfl, hb1⟩
    · have hres : combR (dat L) need = combV (sortD (dat L)) need := by rw [combR, if_pos ⟨hwt, by have := HMD.out; omega⟩]
      have hmi : ¬ ((m : Int) < (need : Int)) := by omega
      have hmi' : decide ((m : Int) < (need : Int)) = false := decide_eq_false hmi
      clear hmn
      have hn1 := newTables_any w1
      go_wp2_with fail
      refine hn1.mono ?_
      rintro e w2 ⟨rfl, hT, hb2⟩
      have hm := HM0.out
      have hmD := HMD.out
      clear HM0 HMD
      obtain ⟨gt, egt⟩ : ∃ g, g = w1.heap.size := ⟨_, rfl⟩
      rw [← egt] at hT ⊢
      have hbw2 : Below w.heap.size w w2 := hb1.trans (hb2.mono hb1.size)
      have hsh2 : Shs w2 a' (sortS L) := hsh.below hb2 (Nat.le_refl _)
      -- the shares, sorted
      have hbnd : ∀ d, (atF (dat L) L.length).getD d 0 ≤ L.length := fun d => by have := (atF_bound (dat L) L.length d).2; omega
      have hlen : ∀ i, i < m → ((sortS L).getD i zs).b.length = (L.getD 0 zs).b.length := fun i hi => by
        obtain ⟨j, hj, he⟩ := sortU_mem L (atF (dat L) L.length) 256 hbnd _ (getD_mem (sortS L) i (by rw [← hm]; exact hi))
        rw [he]
        have := ((well_iff (dat L)).1 hwt j (by rw [length_dat]; exact hj)).2.2
        rw [dB_dat, dB_dat] at this
        exact this
      have hL0 : 0 < L.length := by
        rcases Nat.eq_zero_or_pos L.length with h | h
        · exfalso
          have : sortS L = [] := by
            have hl : ∀ s ∈ sortS L, False := fun s hs => by
              obtain ⟨j, hj, _⟩ := sortU_mem L (atF (dat L) L.length) 256 hbnd s hs
              omega
            exact List.eq_nil_iff_forall_not_mem.2 (fun s hs => hl s hs)
          rw [this] at hm
          simp at hm
          omega
        · exact h
      obtain ⟨bn, hbn⟩ : ∃ b, b = (L.getD 0 zs).b.length := ⟨_, rfl⟩
      have hbn2 : bn ≤ 1000000 := by rw [hbn]; exact HB.out 0 hL0
      rw [← hbn] at hlen
      rw [← dat_sortS] at hres hmD
      have hm1000 : m ≤ 1000 := by
        have := sortU_len L (atF (dat L) L.length) 256
        rw [hm]
        exact Nat.le_trans this (by omega)
      obtain ⟨M, hM⟩ : ∃ M, M = sortS L := ⟨_, rfl⟩
      rw [← hM] at hm hsh2 hlen hres
      have hMn : need ≤ M.length := by omega
      obtain ⟨g, o, ea, hc⟩ : ∃ g o, a' = some ⟨g, o, none⟩ ∧ ∀ i, i < M.length → w2.cell? ⟨g, o + i * 2, none⟩ = some (.int .u8 (M.getD i zs).x.toNat) ∧ w2.cell? ⟨g, o + i * 2 + 1, none⟩ = some (M.getD i zs).v := by
        rcases hsh2.cells with h | h
        · rw [h] at hMn; simp at hMn; omega
        · exact h
      subst ea
      obtain ⟨B, hB⟩ : ∃ B, B = w2.heap.size := ⟨_, rfl⟩
      have hgB : g < B := by rw [hB]; exact block_lt_of_cell (a := ⟨g, o + 0 * 2, none⟩) (hc 0 (by omega)).1
      have hgt : gt < B := by rw [hB]; exact Row.lt hT
      have htk : ∀ i, i < need → (M.take need).getD i zs = M.getD i zs := fun i hi => by simp [List.getD, List.getElem?_take, hi]
      have htl : (M.take need).length = need := by rw [List.length_take]; omega
      -- interpolate at any later world
      have hI : Hid (∀ x W, Below B w2 W → Calls Try.prog 34 #[.slice (some ⟨g, o, none⟩) need c', .int .u8 x.toNat, .func (.func 35) #[.pointer (some ⟨gt, 0, none⟩)] #[], .func (.func 29) #[.pointer (some ⟨gt, 0, none⟩)] #[]] W fun e w' =>
          ∃ g', e = .returned (.slice (some ⟨g', 0, none⟩) bn bn) ∧ W.heap.size ≤ g' ∧ Row w' g' 5 (bcells (interpL ((dat M).take need) x)) ∧ Below W.heap.size W w') := Lib.hid fun x W hW => by
        have := interp_any gt g o (M.take need) c' x bn (by omega) (by omega) hbn2 (fun i hi => by rw [htl] at hi; rw [htk i hi]; exact hlen i (by omega)) W (TB.below hT hW hgt)
          (fun i hi => by
            rw [htl] at hi
            rw [htk i hi]
            have hcc := hc i (by omega)
            exact ⟨(hW.cell (p := ⟨g, o + i * 2, none⟩) hgB).trans hcc.1, (hW.cell (p := ⟨g, o + i * 2 + 1, none⟩) hgB).trans hcc.2⟩)
          (fun i hi => by
            rw [htl] at hi
            rw [htk i hi]
            exact (hsh2.svs i (by omega)).below hW (by rw [hB]; exact Nat.le_refl _))
        rw [htl, dat_take] at this
        exact this
      have hIl : Hid (∀ x, (interpL ((dat M).take need) x).length = bn) := Lib.hid fun x => by
        rw [interpL, List.length_map, List.length_range, ← dat_take, dB_dat, htk 0 (by omega)]
        exact hlen 0 (by omega)
      have HCV := Lib.hid hres
      have HSH := Lib.hid hsh2
      have HLEN := Lib.hid hlen
      have HC := Lib.hid hc
      have HMm := Lib.hid hm
      obtain ⟨sa, hsa⟩ : ∃ sa, sa = (if c' = need then some (⟨g, o, none⟩ : Addr) else (some (⟨g, o, none⟩ : Addr)).map (·.add (need * 2))) := ⟨_, rfl⟩
      have hrun := fun W => run_slice_lo2 W (some ⟨g, o, none⟩) m c' need (by omega)
      rw [← hsa] at hrun
      have HSA := Lib.hid hsa
      have HR := Lib.hid hrun
      have hm1 : need ≤ m := by omega
      obtain ⟨q, hq⟩ : ∃ q, q = m - need := ⟨_, rfl⟩
      rw [← hq] at HR
      have hqi : (q : Int) = (m : Int) - (need : Int) := by omega
      have q1000 : (q : Int) ≤ 1000 := by omega
      have Hq := Lib.hid hqi
      have Hq2 := Lib.hid hq
      have hc2 : need ≤ c' := by omega
      have BW := Lib.hid hbw2
      have b0 : Below B w2 w2 := Below.refl _ _
      have HB2 := Lib.hid hB
      have wB : w.heap.size ≤ B := by rw [hB]; exact hbw2.size
      clear hres hsh hsh2 hlen hc hm hsa hrun hqi hq hbnd hT hb2 hb1 hbw2 egt hbn htk htl hwt hmD hM hMn hB hord hn1
      go_wp2_with (first | ((with_reducible show wpList _ _ _ (Oper.mk _ (Op.slice _ _ _ _ _) _ _ _ _ :: _) _ _); refine wpList_slice_run rfl 31 (.tmp 31) (some (.tmp 32)) none rfl rfl rfl rfl (HR.out _) ?_))
      have HF := Lib.hid (show (dat M).length - need = q by rw [length_dat, ← HMm.out, Hq2.out])
      go_loopw [35] (fun i wr => ∃ k : Nat, k ≤ q ∧ i = .int .i64 k ∧ Below B w2 wr ∧ ∀ t, t < k → interpL ((dat M).take need) (dX (dat M) (need + t)) = dB (dat M) (need + t)) (fun i _ => q - (intOf i).toNat)
      case atStart => exact ⟨0, by omega, rfl, b0, fun t ht => by omega⟩
      case round =>
        clear b0
        obtain ⟨k, hk, rfl, hb, hall⟩ := hrel
        by_cases hkq : k < q
        · have ki : (k : Int) < (q : Int) := by omega
          have hpm : need + k < m := by have := Hq2.out; omega
          have hpM : need + k < M.length := by rw [← HMm.out]; exact hpm
          have hse : sa = some ⟨g, o + need * 2, none⟩ := by rw [HSA.out, if_neg (by omega)]; simp [Addr.add_mid]
          obtain ⟨av, cv, ev, hcv, hbs⟩ := HSH.out.svs (need + k) hpM
          have hbl := HLEN.out (need + k) hpm
          have hra : Hid (wr.rangeAt g (o + need * 2 + k * 2) [.int .u8 (M.getD (need + k) zs).x.toNat, .slice av bn cv]) := Lib.hid fun i v hv => by
            have hcc := HC.out (need + k) hpM
            rw [ev, hbl, show o + (need + k) * 2 = o + need * 2 + k * 2 by omega] at hcc
            match i, hv with
            | 0, hv => simp at hv; subst hv; exact (hb.cell (p := ⟨g, o + need * 2 + k * 2, none⟩) hgB).trans hcc.1
            | 1, hv => simp at hv; subst hv; exact (hb.cell (p := ⟨g, o + need * 2 + k * 2 + 1, none⟩) hgB).trans hcc.2
            | (i + 2), hv => simp at hv
          have hdx : Hid (dX (dat M) (need + k) = (M.getD (need + k) zs).x) := Lib.hid (dX_dat _ _)
          have hdb : Hid (dB (dat M) (need + k) = (M.getD (need + k) zs).b) := Lib.hid (dB_dat _ _)
          generalize (M.getD (need + k) zs).x = x at *
          generalize (M.getD (need + k) zs).b = b at *
          obtain ⟨g10, e10⟩ : ∃ g, g = wr.heap.size := ⟨_, rfl⟩
          obtain ⟨W4, hW4⟩ : ∃ W, W = wr.alloc (.cells #[.int .u8 x.toNat, .slice av bn cv] 33) := ⟨_, rfl⟩
          have r10 : Row W4 g10 33 #[.int .u8 x.toNat, .slice av bn cv] := by rw [hW4]; exact Row.new' _ _ e10
          have b4 : Below B w2 W4 := by rw [hW4]; exact hb.alloc (by rw [HB2.out]; exact hb.size) _
          have hbs4 : Bs W4 av b := hbs.below b4 (by rw [HB2.out]; exact Nat.le_refl _)
          have E10 := Lib.hid e10
          have HW4 := Lib.hid hW4
          have R10 := Lib.hid r10
          have B4 := Lib.hid b4
          have HB4 := Lib.hid hbs4
          have HA := Lib.hid hall
          have HBL := Lib.hid hbl
          clear hall hb ev hcv hbs e10 hW4 r10 b4 hbs4 hbl
          subst hse
          go_wp2_with (first | ((with_reducible show wpList _ _ _ (Oper.mk _ (Op.load _ _) _ _ _ _ :: _) _ _); refine wpList_load_mid rfl 33 (.tmp 37) rfl g (o + need * 2 + k * 2) rfl [.int .u8 x.toNat, .slice av bn cv] _ hra.out Try.underlying33 rfl Try.n33 ?_) | ((with_reducible show wpList _ _ _ (Oper.mk _ (Op.alloc _) _ _ _ _ :: _) _ _); refine wpList_alloc_row rfl 33 rfl _ Try.z33 g10 E10.out ?_) | ((with_reducible show wpList _ _ _ (Oper.mk _ (Op.store _ _ _) _ _ _ _ :: _) _ _); (refine wpList_put_arr rfl 33 (.tmp 10) (.tmp 38) rfl rfl g10 33 _ #[.int .u8 x.toNat, .slice av bn cv] rfl rfl (Row.new' _ _ E10.out) Try.n33 rfl (one_share _ _ _ _) ?_; rw [setRow_new _ _ _ _ _ E10.out, ← HW4.out])))
          have hS : W4.drew.cell? ⟨g10, 0, none⟩ = some (.int .u8 x.toNat) ∧ W4.drew.cell? ⟨g10, 1, none⟩ = some (.slice av bn cv) ∧ Bs W4.drew av b := ⟨R10.out.cell 0, R10.out.cell 1, by rcases HB4.out with h | ⟨g, o, ha, hcc⟩; exact .inl h; exact .inr ⟨g, o, ha, hcc⟩⟩
          have X1 := Lib.hid (hI.out x W4.drew B4.out.drew)
          refine wp_region_held (S := fun W' => W'.cell? ⟨g10, 0, none⟩ = some (.int .u8 x.toNat) ∧ W'.cell? ⟨g10, 1, none⟩ = some (.slice av bn cv) ∧ Bs W' av b) (by kernel_rfl) ?_
          refine take_move 0 39 (.tmp 6) (.slice (some ⟨g, o, none⟩) m c') rfl rfl rfl rfl rfl (by kernel_rfl) (by kernel_rfl) (by kernel_rfl) (fun _ _ _ h => h) hS ?_
          simp only [Act.put, List.setIfInBounds_toArray, List.set_cons_zero, List.set_cons_succ]
          refine take_move 1 40 (.tmp 1) (.int .i64 (need : Int)) rfl rfl rfl rfl rfl (by kernel_rfl) (by kernel_rfl) (by kernel_rfl) (fun _ _ _ h => h) hS ?_
          simp only [Act.put, List.setIfInBounds_toArray, List.set_cons_zero, List.set_cons_succ]
          refine take_run 2 41 (.slice (some ⟨g, o, none⟩) need c') rfl rfl rfl (fun W hW => exec_slice_run W 31 (.tmp 39) none (some (.tmp 40)) rfl rfl rfl rfl (run_slice_hi2 W _ m c' need hc2)) (by kernel_rfl) (by kernel_rfl) (by kernel_rfl) (fun _ _ _ h => h) hS ?_
          simp only [Act.put, List.setIfInBounds_toArray, List.set_cons_zero, List.set_cons_succ]
          refine take_run 3 42 (.pointer (some ⟨g10, 0, none⟩)) rfl rfl rfl (fun W hW => exec_field W (.tmp 10) 0 (by omega) rfl g10 rfl) (by kernel_rfl) (by kernel_rfl) (by kernel_rfl) (fun _ _ _ h => h) hS ?_
          simp only [Act.put, List.setIfInBounds_toArray, List.set_cons_zero, List.set_cons_succ]
          refine take_run 4 43 (.int .u8 x.toNat) rfl rfl rfl (fun W hW => exec_load1 W 5 (.tmp 42) rfl (Try.a5 W) ⟨g10, 0, none⟩ _ rfl hW.1) (by kernel_rfl) (by kernel_rfl) (by kernel_rfl) (fun _ _ _ h => h) hS ?_
          simp only [Act.put, List.setIfInBounds_toArray, List.set_cons_zero, List.set_cons_succ]
          refine take_move 5 44 (.tmp 8) (.pointer (some ⟨gt, 0, none⟩)) rfl rfl rfl rfl rfl (by kernel_rfl) (by kernel_rfl) (by kernel_rfl) (fun _ _ _ h => h) hS ?_
          simp only [Act.put, List.setIfInBounds_toArray, List.set_cons_zero, List.set_cons_succ]
          refine take_run 6 45 (.func (.func 35) #[.pointer (some ⟨gt, 0, none⟩)] #[]) rfl rfl rfl (fun W hW => exec_func W 35 (.tmp 44) rfl _ rfl) (by kernel_rfl) (by kernel_rfl) (by kernel_rfl) (fun _ _ _ h => h) hS ?_
          simp only [Act.put, List.setIfInBounds_toArray, List.set_cons_zero, List.set_cons_succ]
          refine take_move 7 46 (.tmp 8) (.pointer (some ⟨gt, 0, none⟩)) rfl rfl rfl rfl rfl (by kernel_rfl) (by kernel_rfl) (by kernel_rfl) (fun _ _ _ h => h) hS ?_
          simp only [Act.put, List.setIfInBounds_toArray, List.set_cons_zero, List.set_cons_succ]
          refine take_run 8 47 (.func (.func 29) #[.pointer (some ⟨gt, 0, none⟩)] #[]) rfl rfl rfl (fun W hW => exec_func W 29 (.tmp 46) rfl _ rfl) (by kernel_rfl) (by kernel_rfl) (by kernel_rfl) (fun _ _ _ h => h) hS ?_
          simp only [Act.put, List.setIfInBounds_toArray, List.set_cons_zero, List.set_cons_succ]
          refine take_run 11 50 (.pointer (some ⟨g10, 1, none⟩)) rfl rfl rfl (fun W hW => exec_field W (.tmp 10) 1 (by omega) rfl g10 rfl) (by kernel_rfl) (by kernel_rfl) (by kernel_rfl) (fun _ _ _ h => h) hS ?_
          simp only [Act.put, List.setIfInBounds_toArray, List.set_cons_zero, List.set_cons_succ]
          refine take_run 12 51 (.slice av bn cv) rfl rfl rfl (fun W hW => exec_load1 W 27 (.tmp 50) rfl (Try.a27 W) ⟨g10, 1, none⟩ _ rfl hW.2.1) (by kernel_rfl) (by kernel_rfl) (by kernel_rfl) (fun _ _ _ h => h) hS ?_
          simp only [Act.put, List.setIfInBounds_toArray, List.set_cons_zero, List.set_cons_succ]
          refine take_run 13 52 (.string (strB b)) rfl rfl rfl (fun W hW => exec_str W (.tmp 51) rfl av b cv (by rw [HBL.out]; rfl) hW.2.2) (by kernel_rfl) (by kernel_rfl) (by kernel_rfl) (fun _ _ _ h => h) hS ?_
          simp only [Act.put, List.setIfInBounds_toArray, List.set_cons_zero, List.set_cons_succ]
          refine wpAnyH_one (i := 9) (by kernel_rfl) rfl rfl (wp_call_ret rfl call34 X1.out (by simp [Act.eval]) (d := 48) rfl ?_)
          rintro e w5 ⟨g', rfl, hg', rg, hb5⟩
          have b5 : Below B w2 w5 := B4.out.trans (Below.mono (show Below W4.heap.size W4 w5 from ⟨hb5.os, hb5.tape, hb5.output, hb5.size, hb5.block⟩) (by rw [HB2.out]; exact B4.out.size))
          have hS5 : w5.cell? ⟨g10, 0, none⟩ = some (.int .u8 x.toNat) ∧ w5.cell? ⟨g10, 1, none⟩ = some (.slice av bn cv) ∧ Bs w5 av b :=
            ⟨(hb5.cell (p := ⟨g10, 0, none⟩) R10.out.lt).trans hS.1, (hb5.cell (p := ⟨g10, 1, none⟩) R10.out.lt).trans hS.2.1, hS.2.2.below hb5 (Nat.le_refl _)⟩
          refine ⟨_, rfl, hS5, ?_⟩
          simp only [Act.put, List.setIfInBounds_toArray, List.set_cons_zero, List.set_cons_succ]
          obtain ⟨r, hr⟩ : ∃ r, r = interpL ((dat M).take need) x := ⟨_, rfl⟩
          have hrl : r.length = bn := by rw [hr, hIl.out]
          rw [← hr] at rg
          refine wpAnyH_one (i := 10) (by kernel_rfl) rfl rfl (wp_value (d := 49) rfl (exec_str _ (.tmp 48) rfl (some ⟨g', 0, none⟩) r bn (by rw [hrl]; rfl) (Bs.of_row rg)) ?_)
          refine ⟨hS5, ?_⟩
          simp only [Act.put, List.setIfInBounds_toArray, List.set_cons_zero, List.set_cons_succ]
          refine take_run 14 53 (.bool (decide (r ≠ b))) rfl rfl rfl (fun W hW => exec_neq W (.tmp 49) (.tmp 52) rfl r b rfl rfl) (by kernel_rfl) (by kernel_rfl) (by kernel_rfl) (fun _ _ _ h => h) hS5 ?_
          simp only [Act.put, List.setIfInBounds_toArray, List.set_cons_zero, List.set_cons_succ]
          refine wpAnyH_done (by kernel_rfl) ?_ _
          have B5 := Lib.hid b5
          clear hS hS5 X1 hb5 rg b5
          by_cases hrb : r = b
          · have hd : decide (r ≠ b) = false := by simp [hrb]
            rw [hd]
            have hgood : Hid (interpL ((dat M).take need) (dX (dat M) (need + k)) = dB (dat M) (need + k)) := Lib.hid (by rw [hdx.out, hdb.out, ← hr, hrb])
            clear hd hrb hr
            go_wp2_with fail
            go_roundw
            case rel =>
              refine ⟨k + 1, by omega, by go_num, B5.out, fun t ht => ?_⟩
              by_cases h : t < k
              · exact HA.out t h
              · rw [show t = k by omega]; exact hgood.out
            case measure => simp [intOf] <;> omega
          · have hd : decide (r ≠ b) = true := by simp [hrb]
            rw [hd]
            have hbad : Hid (combR (dat L) need = none) := Lib.hid (by rw [HCV.out]; exact combV_none _ _ k (by rw [HF.out]; exact hkq) (by rw [hdx.out, hdb.out, ← hr]; exact hrb))
            clear hd hrb hr
            go_wp2_with fail
            go_ret2
            exact ⟨by rw [combPost, hbad.out]; rfl, BW.out.trans (B5.out.mono wB)⟩
        · have hgood : Hid (combR (dat L) need = some (interpL ((dat M).take need) 0#8)) := Lib.hid (by rw [HCV.out]; exact combV_some _ _ fun t ht => hall t (by rw [HF.out] at ht; omega))
          have X := Lib.hid (hI.out 0#8 wr hb)
          have Hb := Lib.hid hb
          have hkq2 : ¬ ((k : Int) < (q : Int)) := by omega
          clear hall hb hkq
          go_wp2_with (first | ((with_reducible show wpList _ _ _ (Oper.mk _ (Op.slice _ _ _ _ _) _ _ _ _ :: _) _ _); refine wpList_slice_run rfl 31 (.tmp 55) none (some (.tmp 56)) rfl rfl rfl rfl (run_slice_hi2 _ _ m c' need hc2) ?_))
          refine X.out.mono ?_
          rintro e w5 ⟨g', rfl, hg', rg, hb5⟩
          have RG := Lib.hid rg
          have b5 := Lib.hid (Hb.out.trans (hb5.mono (by rw [HB2.out]; exact Hb.out.size)))
          have hg5 := Lib.hid (Nat.le_trans (Nat.le_trans wB (by rw [HB2.out]; exact Hb.out.size)) hg')
          clear rg hb5 hg'
          go_wp2_with fail
          go_ret2
          refine ⟨?_, BW.out.trans (b5.out.mono wB)⟩
          rw [combPost, hgood.out]
          exact ⟨g', by rw [hIl.out]; rfl, hg5.out, RG.out⟩
end Go.Proofs.Ytpghdiklleedaaa
