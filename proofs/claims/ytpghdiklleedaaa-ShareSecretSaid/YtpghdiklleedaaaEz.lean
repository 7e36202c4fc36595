/- The walk of explain. -/
import Derived.Test.YtpghdiklleedaaaEx
set_option linter.all false
namespace Go.Proofs.Ytpghdiklleedaaa
open Go.RowKit Go.Fen Gf
set_option maxHeartbeats 400000

def lenOf : Value → Nat
  | .slice _ l _ => l
  | _ => 0
theorem wpList_at' {P : Program} {ops : Array Oper} {rest : List Oper} {a : Act} {Q : Exit → Act → World → Prop} {w w' : World} (e : w' = w) (h : wpList P ops Q rest a w') : wpList P ops Q rest a w := e ▸ h
theorem run_store5 (w : World) (g j : Nat) (z : Int) {u : Value} (hc : w.cell? ⟨g, j, none⟩ = some u) (hf : w.frozen? ⟨g, j, none⟩ = false) : (storeVar 5 ⟨g, j, none⟩ (.int .u8 z)).run Try.prog w = .ok () (w.setCell ⟨g, j, none⟩ (.int .u8 z)) := by
  obtain ⟨i, hi, hzz⟩ := Option.map_eq_some_iff.1 Try.info5
  simp only [Prod.mk.injEq] at hzz
  have hs : i.size = 1 := hzz.2.1
  simp [storeVar, sizeOf, typeInfo, hi, Value.cells, hs]
  simp [storeCells, Addr.add]
  have hr := run_store Try.prog w ⟨g, j, none⟩ (.int .u8 z) .plain rfl
  rw [hc] at hr
  simp only [hf, Bool.false_eq_true, if_false] at hr
  simpa [Sem.run_bind] using hr
/-- a store of one cell -/
theorem wpList_store1 {ops : Array Oper} {rest : List Oper} {o : Oper} {a : Act} {w : World} {Q : Exit → Act → World → Prop} (hgd : o.guard = none) (x y : Operand) (ho : o.op = .store 5 x y) (hd : o.dst = none) (g j : Nat) (z : Int) {u : Value}
    (hx : a.eval x = .pointer (some ⟨g, j, none⟩)) (hy : a.eval y = .int .u8 z) (hc : w.cell? ⟨g, j, none⟩ = some u) (hf : w.frozen? ⟨g, j, none⟩ = false)
    (h : wpList Try.prog ops Q rest a (w.setCell ⟨g, j, none⟩ (.int .u8 z))) : wpList Try.prog ops Q (o :: rest) a w := by
  refine wpList_plain hgd fun K hK => ?_
  unfold Oper.wp execOp
  simp only [ho, hx, hy, Instr.storeAt, Instr.sureAddr, Sem.run_bind, Sem.run_pure, Result.andThen_ok, run_store5 w g j z hc hf]
  show K (a.put o.dst undef) _
  rw [hd]
  exact hK _ _ h
theorem wpList_of_step {P : Program} {ops : Array Oper} {rest : List Oper} {o : Oper} {a : Act} {w : World} {Q : Exit → Act → World → Prop} (hgd : o.guard = none)
    (h : ∀ K : Act → World → Prop, (∀ a w, wpList P ops Q rest a w → K a w) → if Region.wanted o (yielded ops a.tmps) = true then Oper.wp P o a w K Q else True) : wpList P ops Q (o :: rest) a w :=
  wpList_plain hgd fun K hK => by
    have := h K hK
    rwa [if_pos (by simp [Region.wanted, hgd])] at this
theorem wpList_pushB' {ops : Array Oper} {rest : List Oper} {o : Oper} {a : Act} {Q : Exit → Act → World → Prop} (hgd : o.guard = none) (s x : Operand)
    (ho : o.op = .call { callee := .builtin .append, args := #[s, x], argTypes := #[27, 27] })
    (B : Nat) (v : Value) (l : List (BitVec 8)) (hs : a.eval s = v) (W0 w0 w1 : World) (b : BitVec 8) (hw1 : w1 = w0.alloc (.cells #[.int .u8 b.toNat] 5))
    (hx : a.eval x = .slice (some ⟨w0.heap.size, 0, none⟩) 1 1) (hb : BufB B v l W0 w0) (hlen : l.length ≤ 1000000)
    (h : ∀ v' w', BufB B v' (l ++ [b]) W0 w' → w1.grownBy w' v.ownBlock → (v'.ownBlock = v.ownBlock ∨ v'.ownBlock = some w1.heap.size) → wpList Try.prog ops Q rest (a.put o.dst v') w') : wpList Try.prog ops Q (o :: rest) a w1 :=
  wpList_of_step hgd fun K hK => step_pushB hgd s x ho B v l hs W0 w0 w1 b hw1 hx hb hlen fun v' w' h1 h2 h3 => hK _ _ (h v' w' h1 h2 h3)

set_option maxRecDepth 20000 in
set_option maxHeartbeats 40000000 in
theorem explain_any (asl aL : Option Addr) (s : List (BitVec 8)) (L : List Shr) (ls cs K cL need m n : Nat) (els : ls = s.length) (eK : K = L.length) (em : m = need - 1) (en : n = ls * m) (h1 : 1 ≤ need) (h8 : need ≤ 8) (hls : ls ≤ 40) (hK : K ≤ m) (hbl : ∀ j, j < L.length → (L.getD j zs).b.length ≤ 1000000)
    (w : World) (B1 : Bs w asl s) (hS : Shs w aL L) :
    Calls Try.prog 26 #[.slice asl ls cs, .slice aL K cL, .int .i64 need] w fun e w' => ∃ g', e = .returned (.slice (some ⟨g', 0, none⟩) n n) ∧ Row w' g' 5 (bcells (explL s (dat L) need)) ∧ Below w.heap.size w w' := by
  have hn : n ≤ 280 := by rw [en]; have := Nat.mul_le_mul hls (show m ≤ 7 by omega); omega
  have hm7 : m ≤ 7 := by omega
  have hnm : (ls : Int) * ((need : Int) - 1) = (n : Int) := by rw [en, show ((need : Int) - 1) = (m : Int) by omega]; simp
  obtain ⟨B, hB⟩ : ∃ B, B = w.heap.size := ⟨_, rfl⟩
  have hfin : Hid (explL s (dat L) need = fillB (xo s (dat L) m) n n) := Lib.hid (by rw [explL_fill, ← em, ← els, ← en])
  rw [hfin.out]
  have r0 : Row (w.alloc (.cells (bcells (List.replicate n 0#8)) 5)) B 5 (bcells (fillB (xo s (dat L) m) n 0)) := by rw [fillB_zero]; exact Row.new' _ _ hB
  have b0 : Below B w (w.alloc (.cells (bcells (List.replicate n 0#8)) 5)) := by rw [hB]; exact (Below.refl _ _).alloc (Nat.le_refl _) _
  have hmk := run_make_row' (P := Try.prog) 27 5 (.int .u8 0) 1 Try.underlying27 Try.info5 rfl .i64 .i64 n (by omega) (by omega)
  rw [madeB] at hmk
  have ES := Lib.hid els
  have EK := Lib.hid eK
  have EM := Lib.hid em
  have EN := Lib.hid en
  have HB1 := Lib.hid B1
  have HS := Lib.hid hS
  have HBL := Lib.hid hbl
  have HBB := Lib.hid hB
  clear els eK em en B1 hS hbl hB hfin
  go_enter Try.func26, Try.ntmps26
  go_wp2_with fail
  rw [← HBB.out]
  clear hmk hnm
  generalize w.alloc (.cells (bcells (List.replicate n 0#8)) 5) = W1 at *
  go_loopw [8] (fun i wr => ∃ k : Nat, k ≤ ls ∧ i = .int .i64 k ∧ Row wr B 5 (bcells (fillB (xo s (dat L) m) n (k * m))) ∧ Below B w wr) (fun i _ => ls - (intOf i).toNat)
  case atStart => exact ⟨0, by omega, rfl, by rw [Nat.zero_mul]; exact r0, b0⟩
  case round =>
    clear r0 b0 W1
    obtain ⟨i, hi, rfl, rO, hb⟩ := hrel
    by_cases hil : i < ls
    · have ii : (i : Int) < (ls : Int) := by omega
      obtain ⟨g1, o1, ea1, k1⟩ : ∃ g o, asl = some ⟨g, o, none⟩ ∧ w.cell? ⟨g, o + i, none⟩ = some (.int .u8 (s.getD i 0#8).toNat) := by
        rcases HB1.out with h | ⟨g, o, e, hc⟩
        · have := ES.out; rw [h] at this; simp at this; omega
        · exact ⟨g, o, e, hc i (by rw [← ES.out]; exact hil)⟩
      subst ea1
      have c1 := (hb.cell (p := ⟨g1, o1 + i, none⟩) (by show g1 < B; rw [HBB.out]; exact block_lt_of_cell (a := ⟨g1, o1 + i, none⟩) k1)).trans k1
      obtain ⟨ch, hch⟩ : ∃ c, c = s.getD i 0#8 := ⟨_, rfl⟩
      rw [← hch] at c1
      obtain ⟨gf, hgf⟩ : ∃ g, g = wr.heap.size := ⟨_, rfl⟩
      have hBg : B ≤ gf := by rw [hgf]; have := rO.lt; omega
      obtain ⟨W2, hW2⟩ : ∃ W, W = (wr.alloc (.cells #[.int .u8 ch.toNat] 5)).alloc (.cells #[.int .u8 0, .int .u8 1] 5) := ⟨_, rfl⟩
      have hf0 : BufB B (.slice (some ⟨gf, 0, none⟩) 1 1) [ch] w (wr.alloc (.cells #[.int .u8 ch.toNat] 5)) := Buf.lit hb (by rw [← hgf]; exact hBg) #[.int .u8 ch.toNat] 1 rfl (by decide) gf hgf
      have hE0 : Ex B w B (fillB (xo s (dat L) m) n (i * m)) (.slice (some ⟨gf, 0, none⟩) 1 1) (nwF (dat L) ch i 0) (gf + 1) (nwB (dat L) 0) W2 := by
        rw [hW2]
        refine ⟨(rO.alloc _).alloc _, BufB.alc' hf0 _, Row.new' _ _ (by simp [hgf]), Nat.le_refl _, by omega, ?_, ?_, by omega⟩
        · intro e; have e2 : gf = B := Option.some.inj e; have := rO.lt; omega
        · intro e; have e2 : gf = gf + 1 := Option.some.inj e; omega
      have HE0 := Lib.hid hE0
      have HGF := Lib.hid hgf
      have HW2 := Lib.hid hW2
      have HCH := Lib.hid hch
      have HRO := Lib.hid rO.lt
      clear rO hb hf0 hE0 hW2 hgf k1 hch
      go_wp2_with fail
      rw [← HGF.out, ← HW2.out]
      clear c1 HW2 HGF
      have hE0 := HE0.out
      clear HE0
      clear HRO
      -- what is read of share k
      have hk1 : Hid (∀ k, k < K → ∃ ga oa ak ck bl, aL = some ⟨ga, oa, none⟩ ∧ bl = dB (dat L) k ∧ bl.length ≤ 1000000 ∧ w.cell? ⟨ga, oa + k * 2, none⟩ = some (.int .u8 (dX (dat L) k).toNat) ∧ w.cell? ⟨ga, oa + k * 2 + 1, none⟩ = some (.slice ak bl.length ck) ∧ ∀ j, j < bl.length → ∃ gb ob, ak = some ⟨gb, ob, none⟩ ∧ w.cell? ⟨gb, ob + j, none⟩ = some (.int .u8 (bl.getD j 0#8).toNat)) := Lib.hid fun k hk => by
        have hk' : k < L.length := by rw [← EK.out]; exact hk
        rcases HS.out.cells with h | ⟨ga, oa, ea, hc⟩
        · rw [h] at hk'; simp at hk'
        · obtain ⟨ak, ck, ev, _, hbs⟩ := HS.out.svs k hk'
          obtain ⟨p1, p2⟩ := hc k hk'
          rw [ev] at p2
          refine ⟨ga, oa, ak, ck, (L.getD k zs).b, ea, (dB_dat L k).symm, HBL.out k hk', by rw [dX_dat]; exact p1, p2, fun j hj => ?_⟩
          rcases hbs with h | ⟨gb, ob, e, hcc⟩
          · rw [h] at hj; simp at hj
          · exact ⟨gb, ob, e, hcc j hj⟩
      have blt : ∀ {a : Addr} {v : Value}, w.cell? a = some v → a.block < B := fun h => by rw [HBB.out]; exact block_lt_of_cell h
      have hKL : Hid (K = (dat L).length) := Lib.hid (by rw [length_dat]; exact EK.out)
      obtain ⟨O, hO⟩ : ∃ O, O = fillB (xo s (dat L) m) n (i * m) := ⟨_, rfl⟩
      rw [← hO] at hE0
      have HO := Lib.hid hO
      clear hO
      have clr : True := trivial
      go_loopw [9, 10, 11] (fun vf vb ik wr => ∃ k : Nat, k ≤ K ∧ ik = .int .i64 k ∧ ∃ gb, vb = .slice (some ⟨gb, 0, none⟩) (k + 2) (k + 2) ∧ Ex B w B O vf (nwF (dat L) ch i k) gb (nwB (dat L) k) wr) (fun _ _ ik _ => K - (intOf ik).toNat)
      case atStart => exact ⟨0, by omega, rfl, gf + 1, rfl, hE0⟩
      case round =>
        clear hE0 W2
        obtain ⟨k, hk, rfl, gb, rfl, hE⟩ := hrel
        have hlF := length_nwF (dat L) ch i k
        have hlB := length_nwB (dat L) k
        obtain ⟨gf, capf, ev, hgf1, hgf2, hcapf⟩ := hE.f.form (by rw [hlF]; omega)
        rw [hlF] at ev hcapf
        subst ev
        by_cases hkK : k < K
        · have ki : (k : Int) < (K : Int) := by omega
          have k7 : (k : Int) ≤ 7 := by omega
          obtain ⟨ga, oa, ak, ck, bl, eaL, ebl, hbl', p1, p2, hby⟩ := hk1.out k hkK
          subst eaL
          obtain ⟨x, hx⟩ : ∃ x, x = dX (dat L) k := ⟨_, rfl⟩
          rw [← hx] at p1
          have q1 := (hE.f.2.1.cell (blt p1)).trans p1
          have q2 := (hE.f.2.1.cell (blt p2)).trans p2
          obtain ⟨hv, hhv⟩ : ∃ h, h = bl.getD i 0#8 := ⟨_, rfl⟩
          have hfac : Hid (nwC (dat L) i k (nwF (dat L) ch i k) = mul (hv ^^^ ev (nwF (dat L) ch i k) x) (inv (ev (nwB (dat L) k) x))) := Lib.hid (by rw [nwC, ← ebl, ← hhv, ← hx])
          have hFs := nwF_list (dat L) ch i k
          have hBs := nx_end (dat L) k
          rw [← hx] at hBs
          have HFS := Lib.hid hFs
          have HBS := Lib.hid hBs
          generalize nwC (dat L) i k (nwF (dat L) ch i k) = fac at *
          generalize hF : nwF (dat L) ch i k = F at *
          generalize hBa : nwB (dat L) k = Ba at *
          clear hF hBa hFs hBs
          have hAt1 := fun W (h : Bs W (some ⟨gf, 0, none⟩) F) => at_any (some ⟨gf, 0, none⟩) F (k + 1) capf x W hlF.symm (by omega) h
          have hAt2 := fun W (h : Bs W (some ⟨gb, 0, none⟩) Ba) => at_any (some ⟨gb, 0, none⟩) Ba (k + 2) (k + 2) x W hlB.symm (by omega) h
          have hx1 := u8_xor_bv hv (ev F x)
          have hiv := fun W => rinv_any (ev Ba x) W
          have hml := fun W => rmul_any (hv ^^^ ev F x) (inv (ev Ba x)) W
          rw [← hfac.out] at hml
          generalize hv ^^^ ev F x = t1 at *
          generalize inv (ev Ba x) = t2 at *
          generalize ev F x = t3 at *
          generalize ev Ba x = t4 at *
          have A1 := Lib.hid hAt1
          have A2 := Lib.hid hAt2
          have IV := Lib.hid hiv
          have ML := Lib.hid hml
          have HE := Lib.hid hE
          have HLF := Lib.hid hlF
          have HLB := Lib.hid hlB
          have HX := Lib.hid hx
          have HHV := Lib.hid hhv
          have HBsF : Hid (∀ W, Ex B w B O (.slice (some ⟨gf, 0, none⟩) (k + 1) capf) F gb Ba W → Bs W (some ⟨gf, 0, none⟩) F) := Lib.hid fun W h => .inr ⟨gf, 0, rfl, fun j hj => by rw [Nat.zero_add]; exact (h.f.cells j hj).1⟩
          clear hAt1 hAt2 hiv hml hE hlF hlB hx hfac p1 p2 ebl hhv
          by_cases hin : i < bl.length
          · have hini : (i : Int) < (bl.length : Int) := by omega
            obtain ⟨gy, oy, ey, ky⟩ := hby i hin
            subst ey
            have q3 := (HE.out.f.2.1.cell (blt ky)).trans ky
            rw [← HHV.out] at q3
            clear ky hby hkK
            generalize bl.length = lb at *
            go_wp2_with fail
            refine (A1.out _ (HBsF.out _ HE.out)).mono ?_
            rintro e w1 ⟨rfl, qa, rfl⟩
            go_wp2_with fail
            refine (A2.out _ (Bs.of_row (HE.out.base.drewN qa))).mono ?_
            rintro e w1 ⟨rfl, qb, rfl⟩
            go_wp2_with fail
            refine (IV.out _).mono ?_
            rintro e w1 ⟨rfl, rfl⟩
            go_wp2_with fail
            refine (ML.out _).mono ?_
            rintro e w1 ⟨rfl, rfl⟩
            obtain ⟨W3, hW3⟩ : ∃ W, W = (wr.drewN qa).drewN qb := ⟨_, rfl⟩
            have hE3 : Ex B w B O (.slice (some ⟨gf, 0, none⟩) (k + 1) capf) F gb Ba W3 := by rw [hW3]; exact (HE.out.drewN qa).drewN qb
            first | rw [← hW3] | rw [← World.drewN_drewN, ← hW3]
            clear hW3 hx1 A1 A2 IV ML HE HBsF q1 q2 hgf1 hgf2 q3
            clear wr
            go_wp2_with fail
            go_loopw [9] (fun vf wr => (vf = .slice (some ⟨gf, 0, none⟩) (k + 1) capf ∧ Ex B w B O vf F gb Ba wr) ∨ ∃ g c, vf = .slice (some ⟨g, 0, none⟩) (k + 2) c ∧ k + 2 ≤ c ∧ Ex B w B O vf (F ++ [0#8]) gb Ba wr) (fun vf _ => k + 2 - lenOf vf)
            case atStart => exact .inl ⟨rfl, hE3⟩
            case round =>
              clear hE3 W3
              rcases hrel with ⟨rfl, hE⟩ | ⟨gf', c', rfl, hc', hE⟩
              · have HE := Lib.hid hE
                have kk1 : (k : Int) + 1 < (k : Int) + 2 := by omega
                clear hE
                go_wp2_with (first | ((with_reducible show wpList _ _ _ (Oper.mk _ (Op.call _) _ _ _ _ :: _) _ _); refine wpList_pushB' rfl (.tmp 79) (.tmp 80) rfl B _ F rfl w wr _ 0#8 rfl rfl HE.out.f (by rw [HLF.out]; omega) (fun v' w' hv' hg hown => ?_)))
                obtain ⟨g2, c2, ev, _, _, hc2⟩ := hv'.form (by simp)
                have hE2 := HE.out.pushF hv' hg hown
                rw [List.length_append, HLF.out] at ev hc2
                subst ev
                have HE2 := Lib.hid hE2
                clear hv' hg hown hE2
                go_roundw
                case rel => exact .inr ⟨g2, c2, rfl, hc2, HE2.out⟩
                case measure => simp [lenOf] <;> omega
              · rw [push_zero F (k + 2) (by rw [HLF.out]), ← fill2_zero (fun t => F.getD t 0#8 ^^^ mul fac (Ba.getD t 0#8))] at hE
                have hE4 := hE
                have hci : (k : Int) + 2 ≤ (c' : Int) := by omega
                clear hE hcapf
                go_wp2_with fail
                go_loopw [15] (fun ij wr => ∃ j : Nat, j ≤ k + 2 ∧ ij = .int .i64 j ∧ Ex B w B O (.slice (some ⟨gf', 0, none⟩) (k + 2) c') (fill2 (fun t => F.getD t 0#8 ^^^ mul fac (Ba.getD t 0#8)) (fun t => F.getD t 0#8) (k + 2) j) gb Ba wr) (fun ij _ => k + 2 - (intOf ij).toNat)
                case atStart => exact ⟨0, by omega, rfl, hE4⟩
                case round =>
                  clear hE4
                  obtain ⟨j, hj, rfl, hE⟩ := hrel
                  by_cases hj2 : j < k + 2
                  · have ji : (j : Int) < (k : Int) + 2 := by omega
                    have hset := Lib.hid (fill2_succ (fun t => F.getD t 0#8 ^^^ mul fac (Ba.getD t 0#8)) (fun t => F.getD t 0#8) (k + 2) j)
                    obtain ⟨cf, ff⟩ := hE.f.cells j (by rw [length_fill2]; exact hj2)
                    rw [fill2_get _ _ _ _ hj2] at cf
                    have cb := (hE.base.cell j).trans (get_bcells Ba j (by rw [HLB.out]; exact hj2))
                    have hx2 := u8_xor_bv (F.getD j 0#8) (mul fac (Ba.getD j 0#8))
                    have hm := fun W => rmul_q fac (Ba.getD j 0#8) W
                    obtain ⟨z, hz⟩ : ∃ z, z = F.getD j 0#8 ^^^ mul fac (Ba.getD j 0#8) := ⟨_, rfl⟩
                    rw [← hz] at hx2
                    generalize mul fac (Ba.getD j 0#8) = mb at *
                    generalize F.getD j 0#8 = fj at *
                    generalize Ba.getD j 0#8 = bj at *
                    have HM := Lib.hid hm
                    have HZ := Lib.hid hz
                    have HE := Lib.hid hE
                    clear hm hz hE
                    go_wp2_with fail
                    refine wp_region_quiet_last (by kernel_rfl) (by kernel_rfl) _ rfl ?_
                    simp only [List.dropLast_cons_cons, List.dropLast_singleton]
                    repeat (quiet_step (first | (go_at_call 13; exact Calls.quiet_of (HM.out _))))
                    refine wpQuiet_nil ?_
                    intro _ hw'
                    obtain ⟨nq, hw''⟩ := hw'
                    subst hw''
                    go_wp2_with fail
                    go_roundw
                    case rel => exact ⟨j + 1, by omega, by go_num, by rw [hset.out]; show Ex B w B O _ ((fill2 _ _ _ j).set j _) gb Ba _; rw [← HZ.out]; exact (HE.out.drewN nq).setF j z⟩
                    case measure => simp [intOf] <;> omega
                  · have hj3 : j = k + 2 := by omega
                    rw [hj3, fill2_all, ← HFS.out] at hE
                    have ji : ¬ (j : Int) < (k : Int) + 2 := by omega
                    obtain ⟨N3, hN3⟩ : ∃ N, N = k + 3 := ⟨_, rfl⟩
                    have h3a : (k : Int) + 2 + 1 = (N3 : Int) := by omega
                    have h3b : (k : Int) + 3 = (N3 : Int) := by omega
                    have hmk := run_make_row' (P := Try.prog) 27 5 (.int .u8 0) 1 Try.underlying27 Try.info5 rfl .i64 .i64 N3 (by omega) (by omega)
                    rw [madeB] at hmk
                    obtain ⟨gn, hgn⟩ : ∃ g, g = wr.heap.size := ⟨_, rfl⟩
                    obtain ⟨W5, hW5⟩ : ∃ W, W = wr.alloc (.cells (bcells (List.replicate N3 0#8)) 5) := ⟨_, rfl⟩
                    have hE5 : Ex B w B O (.slice (some ⟨gf', 0, none⟩) (k + 2) c') (nwF (dat L) ch i (k + 1)) gb Ba W5 := by rw [hW5]; exact hE.alloc _
                    have rn5 : Row W5 gn 5 (bcells (nx x Ba N3 0)) := by rw [hW5, nx_zero]; exact Row.new' _ _ hgn
                    have n1 : B ≤ gn := by rw [hgn]; exact hE.f.2.2
                    have n2 : gf' < gn := by rw [hgn]; exact (hE.f.1.lt gf' rfl).2
                    have n3 : B < gn := by rw [hgn]; exact hE.out.lt
                    have n4 : gb < gn := by rw [hgn]; exact hE.base.lt
                    have HGN := Lib.hid hgn
                    have HW5 := Lib.hid hW5
                    have HN3 := Lib.hid hN3
                    clear hE hgn hW5 hj2 hj3 hj hN3
                    go_wp2_with fail
                    rw [← HGN.out, ← HW5.out]
                    clear hmk HGN HW5 ji h3a h3b
                    clear wr
                    go_loopw [17] (fun ij wr => ∃ j : Nat, j ≤ k + 2 ∧ ij = .int .i64 j ∧ Ex B w B O (.slice (some ⟨gf', 0, none⟩) (k + 2) c') (nwF (dat L) ch i (k + 1)) gb Ba wr ∧ Row wr gn 5 (bcells (nx x Ba N3 j))) (fun ij _ => k + 2 - (intOf ij).toNat)
                    case atStart => exact ⟨0, by omega, rfl, hE5, rn5⟩
                    case round =>
                      clear hE5 rn5 W5
                      obtain ⟨j, hj, rfl, hE, rn⟩ := hrel
                      by_cases hj2 : j < k + 2
                      · have ji : (j : Int) < (k : Int) + 2 := by omega
                        have jn : (j : Int) < (N3 : Int) := by have := HN3.out; omega
                        have jn2 : (j : Int) + 1 < (N3 : Int) := by have := HN3.out; omega
                        have j9 : (j : Int) ≤ 8 := by omega
                        have hj3 : j + 1 < N3 := by rw [HN3.out]; omega
                        have hsucc := Lib.hid (nx_succ x Ba N3 j hj3)
                        have cn := (rn.cell j).trans (get_bcells _ j (by rw [length_nx]; omega))
                        have cn2 := (rn.cell (j + 1)).trans (get_bcells _ (j + 1) (by rw [length_nx]; exact hj3))
                        have fn1 := rn.frozen j
                        have fn2 := rn.frozen (j + 1)
                        have cb := (hE.base.cell j).trans (get_bcells Ba j (by rw [HLB.out]; exact hj2))
                        have hne : (j = j + 1) = False := by simp
                        have hg2 : ((nx x Ba N3 j).set j ((nx x Ba N3 j).getD j 0#8 ^^^ mul x (Ba.getD j 0#8))).getD (j + 1) 0#8 = (nx x Ba N3 j).getD (j + 1) 0#8 := by rw [getD_setB _ _ _ _ (by rw [length_nx]; omega), if_neg (by omega)]
                        rw [hg2] at hsucc
                        have hx2 := u8_xor_bv ((nx x Ba N3 j).getD j 0#8) (mul x (Ba.getD j 0#8))
                        have hx3 := u8_xor_bv ((nx x Ba N3 j).getD (j + 1) 0#8) (Ba.getD j 0#8)
                        have hm := fun W => rmul_q x (Ba.getD j 0#8) W
                        have HRN := Lib.hid rn
                        have HE := Lib.hid hE
                        generalize (nx x Ba N3 j).getD (j + 1) 0#8 ^^^ Ba.getD j 0#8 = z2 at *
                        generalize (nx x Ba N3 j).getD j 0#8 ^^^ mul x (Ba.getD j 0#8) = z1 at *
                        generalize (nx x Ba N3 j).getD (j + 1) 0#8 = y2 at *
                        generalize (nx x Ba N3 j).getD j 0#8 = y1 at *
                        generalize mul x (Ba.getD j 0#8) = mb at *
                        generalize Ba.getD j 0#8 = bj at *
                        have HM := Lib.hid hm
                        clear hm hE rn hg2
                        go_wp2_with fail
                        refine wp_region_quiet_last (by kernel_rfl) (by kernel_rfl) _ rfl ?_
                        simp only [List.dropLast_cons_cons, List.dropLast_singleton]
                        repeat (quiet_step (first | (go_at_call 13; exact Calls.quiet_of (HM.out _))))
                        refine wpQuiet_nil ?_
                        intro _ hw'
                        obtain ⟨nqa, hw''⟩ := hw'
                        subst hw''
                        have hrn1 := HRN.out.drewN nqa
                        have hE1 := HE.out.drewN nqa
                        obtain ⟨W6, hW6⟩ : ∃ W, W = (wr.drewN nqa).setCell ⟨gn, j, none⟩ (.int .u8 z1.toNat) := ⟨_, rfl⟩
                        have hrn2 : Row W6 gn 5 (bcells ((nx x Ba N3 j).set j z1)) := by rw [hW6, ← set_bcells]; exact hrn1.set j _
                        have hE2 : Ex B w B O (.slice (some ⟨gf', 0, none⟩) (k + 2) c') (nwF (dat L) ch i (k + 1)) gb Ba W6 := by rw [hW6]; exact hE1.setX n1 (fun e => by have e2 : gf' = gn := Option.some.inj e; omega) (by omega) (by omega) j _
                        have HRN2 := Lib.hid hrn2
                        have HE2 := Lib.hid hE2
                        have cn2' : W6.cell? ⟨gn, j + 1, none⟩ = some (.int .u8 y2.toNat) := by rw [hW6, World.cell?_setCell_other _ ⟨gn, j, none⟩ ⟨gn, j + 1, none⟩ _ (adr_ne (.inr (by omega)))]; exact cn2
                        have cb' : W6.cell? ⟨gb, j, none⟩ = some (.int .u8 bj.toNat) := by rw [hW6, World.cell?_setCell_other _ ⟨gn, j, none⟩ ⟨gb, j, none⟩ _ (adr_ne (.inl (by omega)))]; exact cb
                        have fn2' : W6.frozen? ⟨gn, j + 1, none⟩ = false := by rw [hW6, World.frozen?_setCell]; exact fn2
                        have HW6 := Lib.hid hW6
                        have HCN := Lib.hid cn
                        have HFN := Lib.hid fn1
                        clear hrn1 hE1 hrn2 hE2 hW6 cn2 cb fn2 hx2 HE HRN
                        refine wpList_store1 rfl (.tmp 125) (.tmp 124) rfl rfl gn j z1.toNat rfl rfl HCN.out HFN.out ?_
                        refine wpList_at' HW6.out ?_
                        clear cn fn1
                        go_wp2_with fail
                        go_region
                        go_wp2_with fail
                        go_roundw
                        case rel =>
                          refine ⟨j + 1, by omega, by go_num, (HE2.out.drewN 1).setX n1 (fun e => by have e2 : gf' = gn := Option.some.inj e; omega) (by omega) (by omega) (j + 1) _, ?_⟩
                          rw [hsucc.out, ← set_bcells]
                          exact (HRN2.out.drewN 1).set (j + 1) _
                        case measure => simp [intOf] <;> omega
                      · have hj4 : j = k + 2 := by omega
                        rw [hj4, HN3.out, HBS.out] at rn
                        have hE6 := hE.rebase rn n1 (fun e => by have e2 : gf' = gn := Option.some.inj e; omega) (by omega)
                        have ji : ¬ (j : Int) < (k : Int) + 2 := by omega
                        have HE6 := Lib.hid hE6
                        clear hE rn hE6 hj4 hj2 hj
                        go_wp2_with fail
                        go_roundw
                        case rel => exact ⟨k + 1, by omega, by go_num, gn, by rw [HN3.out], by exact HE6.out⟩
                        case measure => simp [intOf] <;> omega
          · have hini : ¬ (i : Int) < (bl.length : Int) := by omega
            have hv0 : hv = 0#8 := by rw [HHV.out, List.getD, List.getElem?_eq_none (by omega)]; rfl
            subst hv0
            have hx1z : bits BinOp.xor IntKind.u8 0 (t3.toNat : Int) = (t1.toNat : Int) := hx1
            clear hby hkK
            generalize bl.length = lb at *
            go_wp2_with fail
            refine (A1.out _ (HBsF.out _ HE.out)).mono ?_
            rintro e w1 ⟨rfl, qa, rfl⟩
            go_wp2_with fail
            refine (A2.out _ (Bs.of_row (HE.out.base.drewN qa))).mono ?_
            rintro e w1 ⟨rfl, qb, rfl⟩
            go_wp2_with fail
            refine (IV.out _).mono ?_
            rintro e w1 ⟨rfl, rfl⟩
            go_wp2_with fail
            refine (ML.out _).mono ?_
            rintro e w1 ⟨rfl, rfl⟩
            obtain ⟨W3, hW3⟩ : ∃ W, W = (wr.drewN qa).drewN qb := ⟨_, rfl⟩
            have hE3 : Ex B w B O (.slice (some ⟨gf, 0, none⟩) (k + 1) capf) F gb Ba W3 := by rw [hW3]; exact (HE.out.drewN qa).drewN qb
            first | rw [← hW3] | rw [← World.drewN_drewN, ← hW3]
            clear hW3 hx1 A1 A2 IV ML HE HBsF q1 q2 hgf1 hgf2
            clear wr
            go_wp2_with fail
            go_loopw [9] (fun vf wr => (vf = .slice (some ⟨gf, 0, none⟩) (k + 1) capf ∧ Ex B w B O vf F gb Ba wr) ∨ ∃ g c, vf = .slice (some ⟨g, 0, none⟩) (k + 2) c ∧ k + 2 ≤ c ∧ Ex B w B O vf (F ++ [0#8]) gb Ba wr) (fun vf _ => k + 2 - lenOf vf)
            case atStart => exact .inl ⟨rfl, hE3⟩
            case round =>
              clear hE3 W3
              rcases hrel with ⟨rfl, hE⟩ | ⟨gf', c', rfl, hc', hE⟩
              · have HE := Lib.hid hE
                have kk1 : (k : Int) + 1 < (k : Int) + 2 := by omega
                clear hE
                go_wp2_with (first | ((with_reducible show wpList _ _ _ (Oper.mk _ (Op.call _) _ _ _ _ :: _) _ _); refine wpList_pushB' rfl (.tmp 79) (.tmp 80) rfl B _ F rfl w wr _ 0#8 rfl rfl HE.out.f (by rw [HLF.out]; omega) (fun v' w' hv' hg hown => ?_)))
                obtain ⟨g2, c2, ev, _, _, hc2⟩ := hv'.form (by simp)
                have hE2 := HE.out.pushF hv' hg hown
                rw [List.length_append, HLF.out] at ev hc2
                subst ev
                have HE2 := Lib.hid hE2
                clear hv' hg hown hE2
                go_roundw
                case rel => exact .inr ⟨g2, c2, rfl, hc2, HE2.out⟩
                case measure => simp [lenOf] <;> omega
              · rw [push_zero F (k + 2) (by rw [HLF.out]), ← fill2_zero (fun t => F.getD t 0#8 ^^^ mul fac (Ba.getD t 0#8))] at hE
                have hE4 := hE
                have hci : (k : Int) + 2 ≤ (c' : Int) := by omega
                clear hE hcapf
                go_wp2_with fail
                go_loopw [15] (fun ij wr => ∃ j : Nat, j ≤ k + 2 ∧ ij = .int .i64 j ∧ Ex B w B O (.slice (some ⟨gf', 0, none⟩) (k + 2) c') (fill2 (fun t => F.getD t 0#8 ^^^ mul fac (Ba.getD t 0#8)) (fun t => F.getD t 0#8) (k + 2) j) gb Ba wr) (fun ij _ => k + 2 - (intOf ij).toNat)
                case atStart => exact ⟨0, by omega, rfl, hE4⟩
                case round =>
                  clear hE4
                  obtain ⟨j, hj, rfl, hE⟩ := hrel
                  by_cases hj2 : j < k + 2
                  · have ji : (j : Int) < (k : Int) + 2 := by omega
                    have hset := Lib.hid (fill2_succ (fun t => F.getD t 0#8 ^^^ mul fac (Ba.getD t 0#8)) (fun t => F.getD t 0#8) (k + 2) j)
                    obtain ⟨cf, ff⟩ := hE.f.cells j (by rw [length_fill2]; exact hj2)
                    rw [fill2_get _ _ _ _ hj2] at cf
                    have cb := (hE.base.cell j).trans (get_bcells Ba j (by rw [HLB.out]; exact hj2))
                    have hx2 := u8_xor_bv (F.getD j 0#8) (mul fac (Ba.getD j 0#8))
                    have hm := fun W => rmul_q fac (Ba.getD j 0#8) W
                    obtain ⟨z, hz⟩ : ∃ z, z = F.getD j 0#8 ^^^ mul fac (Ba.getD j 0#8) := ⟨_, rfl⟩
                    rw [← hz] at hx2
                    generalize mul fac (Ba.getD j 0#8) = mb at *
                    generalize F.getD j 0#8 = fj at *
                    generalize Ba.getD j 0#8 = bj at *
                    have HM := Lib.hid hm
                    have HZ := Lib.hid hz
                    have HE := Lib.hid hE
                    clear hm hz hE
                    go_wp2_with fail
                    refine wp_region_quiet_last (by kernel_rfl) (by kernel_rfl) _ rfl ?_
                    simp only [List.dropLast_cons_cons, List.dropLast_singleton]
                    repeat (quiet_step (first | (go_at_call 13; exact Calls.quiet_of (HM.out _))))
                    refine wpQuiet_nil ?_
                    intro _ hw'
                    obtain ⟨nq, hw''⟩ := hw'
                    subst hw''
                    go_wp2_with fail
                    go_roundw
                    case rel => exact ⟨j + 1, by omega, by go_num, by rw [hset.out]; show Ex B w B O _ ((fill2 _ _ _ j).set j _) gb Ba _; rw [← HZ.out]; exact (HE.out.drewN nq).setF j z⟩
                    case measure => simp [intOf] <;> omega
                  · have hj3 : j = k + 2 := by omega
                    rw [hj3, fill2_all, ← HFS.out] at hE
                    have ji : ¬ (j : Int) < (k : Int) + 2 := by omega
                    obtain ⟨N3, hN3⟩ : ∃ N, N = k + 3 := ⟨_, rfl⟩
                    have h3a : (k : Int) + 2 + 1 = (N3 : Int) := by omega
                    have h3b : (k : Int) + 3 = (N3 : Int) := by omega
                    have hmk := run_make_row' (P := Try.prog) 27 5 (.int .u8 0) 1 Try.underlying27 Try.info5 rfl .i64 .i64 N3 (by omega) (by omega)
                    rw [madeB] at hmk
                    obtain ⟨gn, hgn⟩ : ∃ g, g = wr.heap.size := ⟨_, rfl⟩
                    obtain ⟨W5, hW5⟩ : ∃ W, W = wr.alloc (.cells (bcells (List.replicate N3 0#8)) 5) := ⟨_, rfl⟩
                    have hE5 : Ex B w B O (.slice (some ⟨gf', 0, none⟩) (k + 2) c') (nwF (dat L) ch i (k + 1)) gb Ba W5 := by rw [hW5]; exact hE.alloc _
                    have rn5 : Row W5 gn 5 (bcells (nx x Ba N3 0)) := by rw [hW5, nx_zero]; exact Row.new' _ _ hgn
                    have n1 : B ≤ gn := by rw [hgn]; exact hE.f.2.2
                    have n2 : gf' < gn := by rw [hgn]; exact (hE.f.1.lt gf' rfl).2
                    have n3 : B < gn := by rw [hgn]; exact hE.out.lt
                    have n4 : gb < gn := by rw [hgn]; exact hE.base.lt
                    have HGN := Lib.hid hgn
                    have HW5 := Lib.hid hW5
                    have HN3 := Lib.hid hN3
                    clear hE hgn hW5 hj2 hj3 hj hN3
                    go_wp2_with fail
                    rw [← HGN.out, ← HW5.out]
                    clear hmk HGN HW5 ji h3a h3b
                    clear wr
                    go_loopw [17] (fun ij wr => ∃ j : Nat, j ≤ k + 2 ∧ ij = .int .i64 j ∧ Ex B w B O (.slice (some ⟨gf', 0, none⟩) (k + 2) c') (nwF (dat L) ch i (k + 1)) gb Ba wr ∧ Row wr gn 5 (bcells (nx x Ba N3 j))) (fun ij _ => k + 2 - (intOf ij).toNat)
                    case atStart => exact ⟨0, by omega, rfl, hE5, rn5⟩
                    case round =>
                      clear hE5 rn5 W5
                      obtain ⟨j, hj, rfl, hE, rn⟩ := hrel
                      by_cases hj2 : j < k + 2
                      · have ji : (j : Int) < (k : Int) + 2 := by omega
                        have jn : (j : Int) < (N3 : Int) := by have := HN3.out; omega
                        have jn2 : (j : Int) + 1 < (N3 : Int) := by have := HN3.out; omega
                        have j9 : (j : Int) ≤ 8 := by omega
                        have hj3 : j + 1 < N3 := by rw [HN3.out]; omega
                        have hsucc := Lib.hid (nx_succ x Ba N3 j hj3)
                        have cn := (rn.cell j).trans (get_bcells _ j (by rw [length_nx]; omega))
                        have cn2 := (rn.cell (j + 1)).trans (get_bcells _ (j + 1) (by rw [length_nx]; exact hj3))
                        have fn1 := rn.frozen j
                        have fn2 := rn.frozen (j + 1)
                        have cb := (hE.base.cell j).trans (get_bcells Ba j (by rw [HLB.out]; exact hj2))
                        have hne : (j = j + 1) = False := by simp
                        have hg2 : ((nx x Ba N3 j).set j ((nx x Ba N3 j).getD j 0#8 ^^^ mul x (Ba.getD j 0#8))).getD (j + 1) 0#8 = (nx x Ba N3 j).getD (j + 1) 0#8 := by rw [getD_setB _ _ _ _ (by rw [length_nx]; omega), if_neg (by omega)]
                        rw [hg2] at hsucc
                        have hx2 := u8_xor_bv ((nx x Ba N3 j).getD j 0#8) (mul x (Ba.getD j 0#8))
                        have hx3 := u8_xor_bv ((nx x Ba N3 j).getD (j + 1) 0#8) (Ba.getD j 0#8)
                        have hm := fun W => rmul_q x (Ba.getD j 0#8) W
                        have HRN := Lib.hid rn
                        have HE := Lib.hid hE
                        generalize (nx x Ba N3 j).getD (j + 1) 0#8 ^^^ Ba.getD j 0#8 = z2 at *
                        generalize (nx x Ba N3 j).getD j 0#8 ^^^ mul x (Ba.getD j 0#8) = z1 at *
                        generalize (nx x Ba N3 j).getD (j + 1) 0#8 = y2 at *
                        generalize (nx x Ba N3 j).getD j 0#8 = y1 at *
                        generalize mul x (Ba.getD j 0#8) = mb at *
                        generalize Ba.getD j 0#8 = bj at *
                        have HM := Lib.hid hm
                        clear hm hE rn hg2
                        go_wp2_with fail
                        refine wp_region_quiet_last (by kernel_rfl) (by kernel_rfl) _ rfl ?_
                        simp only [List.dropLast_cons_cons, List.dropLast_singleton]
                        repeat (quiet_step (first | (go_at_call 13; exact Calls.quiet_of (HM.out _))))
                        refine wpQuiet_nil ?_
                        intro _ hw'
                        obtain ⟨nqa, hw''⟩ := hw'
                        subst hw''
                        have hrn1 := HRN.out.drewN nqa
                        have hE1 := HE.out.drewN nqa
                        obtain ⟨W6, hW6⟩ : ∃ W, W = (wr.drewN nqa).setCell ⟨gn, j, none⟩ (.int .u8 z1.toNat) := ⟨_, rfl⟩
                        have hrn2 : Row W6 gn 5 (bcells ((nx x Ba N3 j).set j z1)) := by rw [hW6, ← set_bcells]; exact hrn1.set j _
                        have hE2 : Ex B w B O (.slice (some ⟨gf', 0, none⟩) (k + 2) c') (nwF (dat L) ch i (k + 1)) gb Ba W6 := by rw [hW6]; exact hE1.setX n1 (fun e => by have e2 : gf' = gn := Option.some.inj e; omega) (by omega) (by omega) j _
                        have HRN2 := Lib.hid hrn2
                        have HE2 := Lib.hid hE2
                        have cn2' : W6.cell? ⟨gn, j + 1, none⟩ = some (.int .u8 y2.toNat) := by rw [hW6, World.cell?_setCell_other _ ⟨gn, j, none⟩ ⟨gn, j + 1, none⟩ _ (adr_ne (.inr (by omega)))]; exact cn2
                        have cb' : W6.cell? ⟨gb, j, none⟩ = some (.int .u8 bj.toNat) := by rw [hW6, World.cell?_setCell_other _ ⟨gn, j, none⟩ ⟨gb, j, none⟩ _ (adr_ne (.inl (by omega)))]; exact cb
                        have fn2' : W6.frozen? ⟨gn, j + 1, none⟩ = false := by rw [hW6, World.frozen?_setCell]; exact fn2
                        have HW6 := Lib.hid hW6
                        have HCN := Lib.hid cn
                        have HFN := Lib.hid fn1
                        clear hrn1 hE1 hrn2 hE2 hW6 cn2 cb fn2 hx2 HE HRN
                        refine wpList_store1 rfl (.tmp 125) (.tmp 124) rfl rfl gn j z1.toNat rfl rfl HCN.out HFN.out ?_
                        refine wpList_at' HW6.out ?_
                        clear cn fn1
                        go_wp2_with fail
                        go_region
                        go_wp2_with fail
                        go_roundw
                        case rel =>
                          refine ⟨j + 1, by omega, by go_num, (HE2.out.drewN 1).setX n1 (fun e => by have e2 : gf' = gn := Option.some.inj e; omega) (by omega) (by omega) (j + 1) _, ?_⟩
                          rw [hsucc.out, ← set_bcells]
                          exact (HRN2.out.drewN 1).set (j + 1) _
                        case measure => simp [intOf] <;> omega
                      · have hj4 : j = k + 2 := by omega
                        rw [hj4, HN3.out, HBS.out] at rn
                        have hE6 := hE.rebase rn n1 (fun e => by have e2 : gf' = gn := Option.some.inj e; omega) (by omega)
                        have ji : ¬ (j : Int) < (k : Int) + 2 := by omega
                        have HE6 := Lib.hid hE6
                        clear hE rn hE6 hj4 hj2 hj
                        go_wp2_with fail
                        go_roundw
                        case rel => exact ⟨k + 1, by omega, by go_num, gn, by rw [HN3.out], by exact HE6.out⟩
                        case measure => simp [intOf] <;> omega
        · have hkK2 : k = K := by omega
          have kki : ¬ (k : Int) < (K : Int) := by omega
          obtain ⟨im, him⟩ : ∃ q, q = i * m := ⟨_, rfl⟩
          have hmi : (i : Int) * ((need : Int) - 1) = (im : Int) := by rw [him, show ((need : Int) - 1) = (m : Int) by have := EM.out; omega]; simp
          have himn : im + m ≤ n := by
            have h := Nat.mul_le_mul_right m (show i + 1 ≤ ls from hil)
            rw [Nat.add_mul, Nat.one_mul, ← him, ← EN.out] at h
            exact h
          have hE6 : Ex B w B (fillB (xo s (dat L) m) n (im + 0)) (.slice (some ⟨gf, 0, none⟩) (k + 1) capf) (nwF (dat L) ch i k) gb (nwB (dat L) k) wr := by rw [Nat.add_zero, him, ← HO.out]; exact hE
          have hkn : k < need := by have := EM.out; omega
          have k7 : k ≤ 7 := by omega
          have im280 : (im : Int) ≤ 280 := by omega
          have HIM := Lib.hid him
          have HK2 := Lib.hid hkK2
          have HLF := Lib.hid hlF
          clear hE him hkK hkK2 hgf1 hgf2 hlF hlB
          go_wp2_with fail
          clear kki
          go_loopw [18] (fun ij wr => ∃ j : Nat, j ≤ k ∧ ij = .int .i64 ((j : Int) + 1) ∧ Ex B w B (fillB (xo s (dat L) m) n (im + j)) (.slice (some ⟨gf, 0, none⟩) (k + 1) capf) (nwF (dat L) ch i k) gb (nwB (dat L) k) wr) (fun ij _ => k + 1 - (intOf ij).toNat)
          case atStart => exact ⟨0, by omega, rfl, hE6⟩
          case round =>
            clear hE6
            obtain ⟨j, hj, rfl, hE⟩ := hrel
            by_cases hjk : j < k
            · have ji : (j : Int) + 1 < (k : Int) + 1 := by omega
              have jn : (j : Int) + 1 < (need : Int) := by omega
              have j7 : (j : Int) ≤ 7 := by omega
              have hlt : (im : Int) + (j : Int) < (n : Int) := by omega
              obtain ⟨cF, _⟩ := hE.f.cells (j + 1) (by rw [HLF.out]; omega)
              have hval : (nwF (dat L) ch i k).getD (j + 1) 0#8 = xo s (dat L) m (im + j) := by rw [HIM.out, xo_at _ _ _ _ _ (by omega), ← HCH.out, ← hKL.out, HK2.out]
              rw [hval] at cF
              have cO := (hE.out.cell (im + j)).trans (get_bcells _ (im + j) (by rw [length_fillB]; omega))
              have fO := hE.out.frozen (im + j)
              have hset := Lib.hid (fillB_succ (xo s (dat L) m) n (im + j))
              have HE := Lib.hid hE
              obtain ⟨z, hz⟩ : ∃ z, z = xo s (dat L) m (im + j) := ⟨_, rfl⟩
              rw [← hz] at cF
              generalize (fillB (xo s (dat L) m) n (im + j)).getD (im + j) 0#8 = old at *
              have HZ := Lib.hid hz
              clear hE hval hz
              go_wp2_with fail
              go_roundw
              case rel => exact ⟨j + 1, by omega, by go_num, by rw [← Nat.add_assoc, hset.out, ← HZ.out]; exact HE.out.setO (im + j) z⟩
              case measure => simp [intOf] <;> omega
            · have hjk2 : j = k := by omega
              rw [hjk2] at hE
              have ji : ¬ (j : Int) + 1 < (k : Int) + 1 := by omega
              have ji2 : decide ((j : Int) + 1 < (k : Int) + 1) = false := decide_eq_false ji
              have HR : Hid (Row wr B 5 (bcells (fillB (xo s (dat L) m) n ((i + 1) * m)))) := Lib.hid (by rw [← fill_skip _ _ _ _ _ (by rw [← hKL.out]; exact hK), ← hKL.out, ← HK2.out, ← HIM.out]; exact hE.out)
              have HBe := Lib.hid hE.f.2.1
              clear hE hjk2 hjk
              go_wp2_with fail
              go_roundw
              case rel => exact ⟨i + 1, by omega, by go_num, HR.out, HBe.out⟩
              case measure => simp [intOf] <;> omega
    · have ei : i = ls := by omega
      rw [ei, ← EN.out] at rO
      have ii : ¬ (i : Int) < (ls : Int) := by omega
      have HR := Lib.hid rO
      have Hb := Lib.hid hb
      clear rO hb ei hil hi
      go_wp2_with fail
      go_ret
      exact ⟨B, rfl, HR.out, by rw [← HBB.out]; exact Hb.out⟩
end Go.Proofs.Ytpghdiklleedaaa
