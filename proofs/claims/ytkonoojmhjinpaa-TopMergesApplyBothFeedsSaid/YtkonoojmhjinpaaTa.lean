/- Contracts: Table. -/
import Derived.Test.YtkonoojmhjinpaaV
set_option linter.all false
namespace Go.Proofs.Ytkonoojmhjinpaa
open Go.RowKit Go.Fen
set_option linter.unusedVariables false
set_option maxHeartbeats 4000000

/-- the variable's other cells turn -/
theorem AccG.turn {V0 w : World} {gv : Nat} {t e : TypeId} {mk mk' : Value → Array Value} {k n : Nat} {v : Value} {xs : List Value} (h : AccG V0 gv t mk e k v n xs w) (hV : gv < V0.heap.size) (i : Nat) (z : Value) (hmk : (mk v).setIfInBounds i z = mk' v) : AccG V0 gv t mk' e k v n xs (w.setCell ⟨gv, i, none⟩ z) := by
  refine ⟨owns_grown h.1 (grown_set (grown_refl w (some gv)) i z) (.inl (fun e => by have := (h.1.lt gv e).1; omega)), ?_, grown_set h.2.2 i z⟩
  have := h.2.1.set i z
  rw [hmk] at this
  exact this
def mkT (N : Int) (v : Value) : Array Value := #[.int .i64 N, v]
/-- the lines' numbers rise from 0 and stay below N -/
def Rising (N : Int) (L : List Ln) : Prop := (∀ l ∈ L, 0 ≤ l.n ∧ l.n < N) ∧ L.Pairwise fun x y => x.n < y.n
theorem Rising.push {N M : Int} {L : List Ln} {l : Ln} (h : Rising N L) (h0 : 0 ≤ l.n) (h1 : N ≤ l.n) (h2 : l.n < M) : Rising M (L ++ [l]) := by
  refine ⟨fun x hx => ?_, List.pairwise_append.2 ⟨h.2, by simp, fun x hx y hy => ?_⟩⟩
  · rcases List.mem_append.1 hx with q | q
    · have := h.1 x q; omega
    · rw [List.mem_singleton.1 q]; omega
  · rw [List.mem_singleton.1 hy]
    have := h.1 x hx; omega
theorem Rising.le {N M : Int} {L : List Ln} (h : Rising N L) (h2 : N ≤ M) : Rising M L := ⟨fun x hx => by have := h.1 x hx; omega, h.2⟩
/-- a table is returned: its numbers are small -/
def RetTb (m : Nat) (b : Int) (e : Ending) (w : World) : Prop := ∃ v N L, e = .returned v ∧ Tb w v N L ∧ Rising N L ∧ L.length ≤ m ∧ 0 ≤ N ∧ N ≤ b
set_option maxRecDepth 20000 in
theorem table_any (m : Nat) (v : Value) (a2 : Option Addr) (V : List Rr) (n2 c2 nn : Nat) (w : World) (hm : m ≤ 1000) (hS : Sch m w v) (hn2 : n2 = V.length) (h26 : n2 ≤ 9223372036854775807) (hnn : nn ≤ 1000) (hV : Raw w a2 V) : Calls Try.prog 7 #[v, .slice a2 n2 c2, .int .i64 nn] w fun e w' => RetTb nn (2 * nn) e w' ∧ Below w.heap.size w w' := by
  have HS := Lib.hid hS
  obtain ⟨a, F, c, nx, rfl, _⟩ := hS
  obtain ⟨n, hn⟩ : ∃ n, n = F.length := ⟨_, rfl⟩
  rw [← hn] at HS ⊢
  obtain ⟨g, eg⟩ : ∃ g, g = w.heap.size := ⟨_, rfl⟩
  obtain ⟨W0, hW0⟩ : ∃ W, W = w.alloc (.cells #[.slice a n c, .int .i64 nx] 31) := ⟨_, rfl⟩
  obtain ⟨W1, hW1⟩ : ∃ W, W = W0.alloc (.cells #[.int .i64 0, .slice none 0 0] 38) := ⟨_, rfl⟩
  have z0 : W0.heap.size = g + 1 := by rw [hW0, eg]; simp
  have b1 : Below w.heap.size w W1 := by rw [hW1, hW0]; exact ((Below.refl _ _).alloc (Nat.le_refl _) _).alloc (by simp) _
  have R0 : Row W1 g 31 #[.slice a n c, .int .i64 nx] := by rw [hW1, hW0, eg]; exact (Row.new w 31 _).alloc _
  have R1 : Row W1 (g + 1) 38 #[.int .i64 0, .slice none 0 0] := by rw [hW1]; exact Row.new' 38 _ z0.symm
  have HC := Lib.hid (rows_any m _ a2 V n2 c2 nn W1 hm (HS.out.bel b1) hn2 h26 hnn ⟨hV.1.bel b1, fun r hr => ⟨(hV.2 r hr).1.bel b1, (hV.2 r hr).2⟩⟩)
  have HW0 := Lib.hid hW0
  have HW1 := Lib.hid hW1
  have EG := Lib.hid eg
  have Z0 := Lib.hid z0
  have HB1 := Lib.hid b1
  have HR0 := Lib.hid R0
  have HR1 := Lib.hid R1
  clear hW0 hW1 eg b1 R0 R1 hn2 hV hn z0
  go_enter Try.func7, Try.ntmps7
  go_wp2_with (first | ((with_reducible show wpList _ _ _ (Oper.mk _ (Op.box _ _) _ _ _ _ :: _) _ _); (refine wpList_box_row rfl 31 (.tmp 0) rfl _ rfl g EG.out ?_; refine wpList_atE HW0.out ?_)) | ((with_reducible show wpList _ _ _ (Oper.mk _ (Op.alloc _) _ _ _ _ :: _) _ _); (refine wpList_alloc_row rfl 38 rfl #[.int .i64 0, .slice none 0 0] Try.z38 (g + 1) Z0.out.symm ?_; refine wpList_atE HW1.out ?_)) | ((with_reducible show wpList _ _ _ (Oper.mk _ (Op.load _ _) _ _ _ _ :: _) _ _); (refine wpList_load_row rfl 31 (.tmp 3) rfl g rfl 31 #[.slice a n c, .int .i64 nx] (0, 0) _ HR0.out Try.underlying31 rfl Try.n31 ?_)))
  refine HC.out.mono ?_
  rintro e w2 ⟨⟨ar, RS, cr, rfl, hRn, hRS⟩, b2⟩
  obtain ⟨nr, hnr⟩ : ∃ n, n = RS.length := ⟨_, rfl⟩
  rw [← hnr]
  obtain ⟨gv, hgv⟩ : ∃ x, x = w2.heap.size := ⟨_, rfl⟩
  obtain ⟨V0, hV0⟩ : ∃ W, W = w2.alloc (.cells #[.int .i64 0, .slice none 0 0] 38) := ⟨_, rfl⟩
  have b3 : Below w2.heap.size w2 V0 := by rw [hV0]; exact (Below.refl _ _).alloc (Nat.le_refl _) _
  have A0 : AccG V0 gv 38 (mkT 0) 45 2 (.slice none 0 0) 0 (([] : List Ln).flatMap lnc) V0 := ⟨World.ownsRow_nil _ _ _ _, by rw [hV0]; exact Row.new' 38 _ hgv, grown_refl _ _⟩
  have HRS := Lib.hid (hRS.bel b3)
  have HB3 := Lib.hid (bel_tr HB1.out (bel_tr b2 b3))
  have HR13 := Lib.hid (HR1.out.below (bel_tr b2 b3) HR1.out.lt)
  have HGV := Lib.hid (show g + 1 < gv ∧ gv < V0.heap.size by rw [hgv, hV0]; exact ⟨Nat.lt_of_lt_of_le HR1.out.lt b2.size, by simp⟩)
  have HA0 := Lib.hid A0
  have HG := Lib.hid hgv
  have HV0 := Lib.hid hV0
  have HNR := Lib.hid hnr
  have n12 : nr ≤ nn := by omega
  clear hV0 hgv A0 b3 b2 hRS hRn hnr
  go_wp2_with (first | ((with_reducible show wpList _ _ _ (Oper.mk _ (Op.alloc _) _ _ _ _ :: _) _ _); (refine wpList_new_row rfl rfl 38 8 (.tmp 14) rfl rfl rfl rfl gv HG.out #[.int .i64 0, .slice none 0 0] rfl rfl _ Try.z38 Try.n38 rfl (by simp [Value.oneCell']) ?_; refine wpList_atE HV0.out ?_)))
  go_loopw [9] (fun iv wr => ∃ (k : Nat) (u : Value) (N : Int) (L : List Ln), k ≤ nr ∧ L.length ≤ k ∧ 0 ≤ N ∧ N ≤ 2 * k ∧ Rising N L ∧ iv = .int .i64 k ∧ (∀ l ∈ L, Rok V0 l.r) ∧ AccG V0 gv 38 (mkT N) 45 2 u L.length (L.flatMap lnc) wr) (fun iv _ => nr - (intOf iv).toNat)
  case atStart => exact ⟨0, _, 0, [], by omega, by simp, by decide, by decide, ⟨by simp, List.Pairwise.nil⟩, rfl, by simp, HA0.out⟩
  case round =>
    obtain ⟨k, u, N, L, hk, hLk, hN0, hN1, hri, rfl, hok, hA⟩ := hrel
    have HA := Lib.hid hA
    have BA := hA.bel (B := gv) (Nat.le_refl _) (Nat.le_of_lt HGV.out.2)
    have BW : Below w.heap.size w wr := HB3.out.trans (BA.mono (by have := HGV.out; have := EG.out; omega))
    have HR1w := Lib.hid (HR13.out.below BA (by have := HGV.out; omega))
    have k0 : wr.cell? ⟨gv, 0, none⟩ = some (.int .i64 N) := hA.2.1.cell 0
    have k1 : wr.cell? ⟨gv, 1, none⟩ = some u := hA.2.1.cell 1
    have HOK := Lib.hid hok
    have HRI := Lib.hid hri
    by_cases hkn : k < nr
    case neg =>
      have ki : ¬ (k : Int) < (nr : Int) := by omega
      obtain ⟨ax, cx, ev, hcap, hlt⟩ := lns_put hA.1 (show g + 1 < V0.heap.size by have := HGV.out; omega) #[.int .i64 N, u]
      have hokw : ∀ l ∈ L, Rok (wr.setRow (g + 1) #[.int .i64 N, u]) l.r := fun l hl => Rok.put (⟨(hok l hl).1.but (g := gv) (t := 38) (z := mkT 0 (.slice none 0 0)) HA0.out.2.1 (by decide) hA.2.2.size (fun q hq hne => hA.2.2.block q hq (by intro e; exact hne (Option.some.inj e))), (hok l hl).2⟩ : Rok wr l.r) HR1w.out (by decide) _
      have HFIN := Lib.hid (show RetTb nn (2 * nn) (.returned (.agg #[.int .i64 N, u])) (wr.setRow (g + 1) #[.int .i64 N, u]) ∧ Below w.heap.size w (wr.setRow (g + 1) #[.int .i64 N, u]) from ⟨⟨_, N, L, rfl, ⟨ax, cx, by rw [ev], hcap, hlt, hokw⟩, hri, by omega, hN0, by omega⟩, below_putRow BW (by have := EG.out; omega) _⟩)
      have HONE := Lib.hid (show (#[Value.int .i64 N, u]).all (·.oneCell') = true by rw [ev]; simp [Value.oneCell'])
      clear ev hcap hlt hokw hkn hk hLk hN0 hN1 hri hok hA BA BW
      go_wp2_with (first | ((with_reducible show wpList _ _ _ (Oper.mk _ (Op.load _ _) _ _ _ _ :: _) _ _); refine wpList_load_mid rfl 38 (.tmp 8) rfl gv 0 rfl [.int .i64 N, u] _ (by intro j v hv; rw [Nat.zero_add]; exact (HA.out.2.1.cell j).trans (by simpa [mkT] using hv)) Try.underlying38 rfl Try.n38 ?_) | ((with_reducible show wpList _ _ _ (Oper.mk _ (Op.store _ _ _) _ _ _ _ :: _) _ _); refine wpList_put_arr rfl 38 (.tmp 6) (.tmp 45) rfl rfl (g + 1) 38 _ #[.int .i64 N, u] rfl rfl HR1w.out Try.n38 rfl HONE.out ?_))
      try simp only [Exit.inBlock, Exit.then]
      refine bodyPost_ret (results_cell_row (p := 6) (ty := 38) rfl _ _ (g + 1) 38 #[.int .i64 N, u] (0, 0) _ rfl (Row.setRow HR1w.out _) Try.underlying38 rfl Try.n38) rfl ?_
      exact HFIN.out
    have ki : (k : Int) < (nr : Int) := by omega
    have hN3 : N < 1000000 := by omega
    clear hkn
    have kz := hA.2.1.frozen 0
    obtain ⟨N2, W4, hN2a, hN2b, hA4⟩ : ∃ (N2 : Int) (W4 : World), (((N % 3 == 2) = true ∧ N2 = N + 1 ∧ W4 = wr.setCell ⟨gv, 0, none⟩ (.int .i64 (N + 1))) ∨ ((N % 3 == 2) = false ∧ N2 = N ∧ W4 = wr)) ∧ (N ≤ N2 ∧ N2 ≤ N + 1) ∧ AccG V0 gv 38 (mkT N2) 45 2 u L.length (L.flatMap lnc) W4 := by
      cases h3 : (N % 3 == 2) with
      | true => exact ⟨N + 1, _, .inl ⟨rfl, rfl, rfl⟩, by omega, hA.turn HGV.out.2 0 _ rfl⟩
      | false => exact ⟨N, wr, .inr ⟨rfl, rfl, rfl⟩, by omega, hA⟩
    have HA4 := Lib.hid hA4
    have BA4 := hA4.bel (B := gv) (Nat.le_refl _) (Nat.le_of_lt HGV.out.2)
    obtain ⟨gr, or, rfl, hgr, hc⟩ := HRS.out.1.form (by rw [← HNR.out]; omega)
    obtain ⟨r, hr⟩ : ∃ f, RS[k]? = some f := ⟨_, List.getElem?_eq_getElem (by rw [← HNR.out]; omega)⟩
    have hrok := HRS.out.2 r (List.mem_of_getElem? hr)
    have HRC := Lib.hid (show W4.rangeAt gr (or + k * 1) (rvc r) from by
      have h1 := (Lt.but (g := gv) (t := 38) (z := mkT 0 (.slice none 0 0)) HRS.out.1 HA0.out.2.1 (by decide) hA4.2.2.size (fun q hq hne => hA4.2.2.block q hq (by intro e; exact hne (Option.some.inj e))))
      obtain ⟨g', o', e', _, hc'⟩ := h1.form (by rw [← HNR.out]; omega)
      injection e' with e'
      injection e' with e1 e2
      subst e1 e2
      exact hc' k r hr)
    have c0 : W4.cell? ⟨gr, or + k, none⟩ = some (rvv r) := by have := HRC.out 0 _ rfl; rw [Nat.mul_one] at this; exact this
    have k40 : W4.cell? ⟨gv, 0, none⟩ = some (.int .i64 N2) := hA4.2.1.cell 0
    have k41 : W4.cell? ⟨gv, 1, none⟩ = some u := hA4.2.1.cell 1
    have HROK := Lib.hid hrok
    have HK := Lib.hid (show k < nr ∧ L.length ≤ k ∧ 0 ≤ N ∧ N ≤ 2 * k ∧ nr ≤ 1000 from ⟨by omega, hLk, hN0, hN1, by omega⟩)
    have hN24 : N2 < 1000001 := by have := hN2b; omega
    have hN25 : 0 ≤ N2 := by have := hN2b; omega
    have k1000 : k < 1000 := by omega
    have nr1000 : nr ≤ 1000 := by omega
    have HN2 := Lib.hid hN2b
    have k3a : ∀ (q : Nat) (o : Obj), ((W4.drewN q).alloc o).cell? ⟨gv, 1, none⟩ = some u := fun q o => (((below_drewN (Below.refl W4.heap.size W4) q).alloc (Nat.le_refl _) o).cell (p := ⟨gv, 1, none⟩) hA4.2.1.lt).trans k41
    have k3b : ∀ (o : Obj), (W4.alloc o).cell? ⟨gv, 1, none⟩ = some u := fun o => ((Below.refl W4.heap.size W4).alloc (Nat.le_refl _) o |>.cell (p := ⟨gv, 1, none⟩) hA4.2.1.lt).trans k41
    have hN01 : 0 ≤ N ∧ N ≤ 100000 := ⟨hN0, by omega⟩
    obtain ⟨hN01, hN02⟩ := hN01
    clear hrok hr hc hgr hLk hN0 hN1 hN2b hri hok hA hA4 BA BA4 BW hk
    have hsplit : True := trivial
    rcases hN2a with ⟨h3, hN, hW⟩ | ⟨h3, hN, hW⟩
    all_goals
      go_upto_region 8 with fail
      rw [← hW]
      clear hW hN k0 k1 kz h3 hN3 hN02 hN01
    all_goals
      go_region_law (refine step_pushK rfl (.tmp 30) (.tmp 38) 36 45 rfl _ 2 32 Try.underlying36 Try.info45 rfl (by decide) (by decide) V0.heap.size u L.length (L.flatMap lnc) rfl W4.drew _ (lnc (Ln.mk N2 r)) rfl (one_lnc _) rfl (HA4.out.drewN 1).1 (HA4.out.drewN 1).2.2.size W4.heap.size rfl rfl (by have := HK.out; omega) (fun ge ce w' hv' hg => ?_); obtain ⟨hrow, hAF⟩ := AccG.push (HA4.out.drewN 1) HGV.out.2 ((Below.refl _ _).alloc (Nat.le_refl _) _) hv' hg 1 rfl; have z3 : w'.cell? ⟨gv, 1, none⟩ = some u := hrow.cell 1; have z4 := hrow.frozen 1; have HAF := Lib.hid hAF; clear hAF hrow hv' hg)
    all_goals
      have HAG : Hid (AccG V0 gv 38 (mkT N2) 45 2 (.slice (some ⟨ge, 0, none⟩) (L.length + 1) ce) (L.length + 1) (L.flatMap lnc ++ lnc (Ln.mk N2 r)) (w'.setCell ⟨gv, 1, none⟩ (.slice (some ⟨ge, 0, none⟩) (L.length + 1) ce))) := HAF
      obtain ⟨w5, hw5⟩ : ∃ x, x = w'.setCell ⟨gv, 1, none⟩ (.slice (some ⟨ge, 0, none⟩) (L.length + 1) ce) := ⟨_, rfl⟩
      rw [← hw5] at HAG
      try rw [← hw5]
      have kN0 : w5.cell? ⟨gv, 0, none⟩ = some (.int .i64 N2) := HAG.out.2.1.cell 0
      have kN1 := HAG.out.2.1.frozen 0
      clear HAF hw5 z3 z4 k3a k3b k40 k41 c0
      go_wp2_with fail
      go_roundw
      case rel => exact ⟨k + 1, _, N2 + 1, L ++ [Ln.mk N2 r], HK.out.1, by have := HK.out; simp; omega, by omega, by have := HK.out; have := HN2.out; omega, Rising.push HRI.out (by simpa using hN25) (by have := HN2.out; simpa using this.1) (by simp; omega), by go_num, fun l hl => by
        rcases List.mem_append.1 hl with q | q
        · exact HOK.out l q
        · rw [List.mem_singleton.1 q]; exact HROK.out, by
        have := HAG.out.turn HGV.out.2 0 (.int .i64 (N2 + 1)) (mk' := mkT (N2 + 1)) rfl
        rw [List.length_append, ← fl_snoc]
        exact this⟩
      case measure => have := HK.out; simp [intOf] <;> omega
end Go.Proofs.Ytkonoojmhjinpaa
