/- Contracts: After. -/
import Derived.Test.YtkonoojmhjinpaaM
set_option linter.all false
namespace Go.Proofs.Ytkonoojmhjinpaa
open Go.RowKit Go.Fen
set_option linter.unusedVariables false
set_option maxHeartbeats 4000000

/-- three results: one that lies in memory, two in slots -/
theorem results_cell_slot2 {P : Program} {fn : Func} {p q r : Tmp} {ty : TypeId} (h : fn.results = #[.cell p ty, .tmp q, .tmp r]) (tmps : Array Value) (w : World) (g : Nat) (t : TypeId) (cs : Array Value) (fr : Nat × Nat) (d : TypeDesc)
    (hp : tmps.getD p undef = .pointer (some ⟨g, 0, none⟩)) (hg : w.heap[g]? = some (.cells cs t fr))
    (hu : P.underlying ty = some d) (hd : (match d with | .struct _ | .array _ _ => true | _ => false) = true) (hi : (P.info? ty).map (·.size) = some cs.size) :
    (results fn tmps).run P w = .ok (.tuple #[.agg cs, tmps.getD q undef, tmps.getD r undef]) w := by
  have hp' : tmps[p]?.getD undef = .pointer (some ⟨g, 0, none⟩) := by simpa using hp
  simp [results, h, hp', asAddr, run_loadVar_row w g t ty cs fr d hg hu hd hi]
/-- a schema, a number and an error are returned -/
def RetS3 (m : Nat) (e : Ending) (w : World) : Prop := ∃ v x y, e = .returned (.tuple #[v, .int .i64 x, .int .i64 y]) ∧ Sch m w v

set_option maxRecDepth 20000 in
theorem after_any (a : Option Addr) (L : List Ch) (n c : Nat) (w : World) (hn : n = L.length) (hn8 : n ≤ 100) (hL : Ls 8 chc w a L) : Calls Try.prog 5 #[.slice a n c] w fun e w' => RetS3 400 e w' ∧ Below w.heap.size w w' := by
  obtain ⟨g, eg⟩ : ∃ g, g = w.heap.size := ⟨_, rfl⟩
  obtain ⟨W0, hW0⟩ : ∃ W, W = w.alloc (.cells #[.slice none 0 0, .int .i64 0] 31) := ⟨_, rfl⟩
  have b0 : Below w.heap.size w W0 := by rw [hW0]; exact (Below.refl _ _).alloc (Nat.le_refl _) _
  have R0 : Row W0 g 31 #[.slice none 0 0, .int .i64 0] := by rw [hW0]; exact Row.new' 31 _ eg
  have HW0 := Lib.hid hW0
  have EG := Lib.hid eg
  have HN := Lib.hid hn
  have HL := Lib.hid hL
  have HB0 := Lib.hid b0
  have HR0 := Lib.hid R0
  clear hW0 eg hn hL b0 R0
  go_enter Try.func5, Try.ntmps5
  go_wp2_with (first | ((with_reducible show wpList _ _ _ (Oper.mk _ (Op.alloc _) _ _ _ _ :: _) _ _); (refine wpList_alloc_row rfl 31 rfl #[.slice none 0 0, .int .i64 0] Try.z31 g EG.out ?_; refine wpList_atE HW0.out ?_)))
  refine (new_any _).mono ?_
  rintro e w1 ⟨⟨v1, rfl, s1⟩, b1⟩
  have HS1 := Lib.hid s1
  obtain ⟨a1, F1, c1, nx1, rfl, _, _⟩ := s1
  obtain ⟨n1, hn1⟩ : ∃ n, n = F1.length := ⟨_, rfl⟩
  rw [← hn1] at HS1 ⊢
  obtain ⟨g5, hg5⟩ : ∃ x, x = w1.heap.size := ⟨_, rfl⟩
  obtain ⟨W2, hW2⟩ : ∃ W, W = w1.alloc (.cells #[.slice a1 n1 c1, .int .i64 nx1] 31) := ⟨_, rfl⟩
  have b2 : Below w1.heap.size w1 W2 := by rw [hW2]; exact (Below.refl _ _).alloc (Nat.le_refl _) _
  have R5 : Row W2 g5 31 #[.slice a1 n1 c1, .int .i64 nx1] := by rw [hW2]; exact Row.new' 31 _ hg5
  have HB2 := Lib.hid (bel_tr HB0.out (bel_tr b1 b2))
  have HR2 := Lib.hid (HR0.out.below (bel_tr b1 b2) HR0.out.lt)
  have HS2 := Lib.hid (HS1.out.bel b2)
  have HR5 := Lib.hid R5
  have HG5 := Lib.hid (show g + 1 ≤ g5 by have := HR0.out.lt; have := b1.size; omega)
  have HW2 := Lib.hid hW2
  have HGE := Lib.hid hg5
  clear hW2 hg5 R5 b2 b1 hn1
  go_wp2_with (first | ((with_reducible show wpList _ _ _ (Oper.mk _ (Op.alloc _) _ _ _ _ :: _) _ _); (refine wpList_new_row rfl rfl 31 5 (.tmp 9) rfl rfl rfl rfl g5 HGE.out #[.slice a1 n1 c1, .int .i64 nx1] rfl rfl _ Try.z31 Try.n31 rfl (one_sch _ _ _ _) ?_; refine wpList_atE HW2.out ?_)))
  go_loopw [6] (fun iv wr => ∃ (k : Nat) (p : Option Addr) (np cp : Nat) (x : Int), k ≤ n ∧ iv = .int .i64 k ∧ Row wr g5 31 #[.slice p np cp, .int .i64 x] ∧ Sch (4 * k) wr (.agg #[.slice p np cp, .int .i64 x]) ∧ Row wr g 31 #[.slice none 0 0, .int .i64 0] ∧ Below w.heap.size w wr) (fun iv _ => n - (intOf iv).toNat)
  case atStart => exact ⟨0, _, _, _, _, by omega, rfl, HR5.out, HS2.out, HR2.out, HB2.out⟩
  case round =>
    obtain ⟨k, p, np, cp, x, hk, rfl, hr5, hs, hr, hb⟩ := hrel
    have k0 : wr.cell? ⟨g5, 0, none⟩ = some (.slice p np cp) := hr5.cell 0
    have k1 : wr.cell? ⟨g5, 1, none⟩ = some (.int .i64 x) := hr5.cell 1
    have HS := Lib.hid hs
    have HRg := Lib.hid hr
    have HR5r := Lib.hid hr5
    have HB := Lib.hid hb
    by_cases hkn : k < n
    · have ki : (k : Int) < (n : Int) := by omega
      obtain ⟨gl, ol, rfl, hgl, hc⟩ := HL.out.some (by rw [← HN.out]; omega)
      obtain ⟨ch, hch⟩ : ∃ f, L[k]? = some f := ⟨_, List.getElem?_eq_getElem (by rw [← HN.out]; exact hkn)⟩
      have hcc : ∀ X, Below w.heap.size w X → X.rangeAt gl (ol + k * 8) (chc ch) := fun X hX => range_below (hc k ch hch) hX hgl
      have hB : w.heap.size ≤ wr.heap.size := hb.size
      obtain ⟨A, hA⟩ : ∃ A, A = Obj.cells #[.slice none 0 0, .int .i64 0] 31 := ⟨_, rfl⟩
      have HKEEP := Lib.hid (fun X (h : Below wr.heap.size wr X) => (⟨(hr5.below h hr5.lt).cell 0, (hr5.below h hr5.lt).cell 1, by have := hcc X (hb.trans (h.mono hB)) 0 _ rfl; rw [Nat.add_zero] at this; exact this, hcc X (hb.trans (h.mono hB)) 1 _ rfl, hcc X (hb.trans (h.mono hB)) 2 _ rfl, hcc X (hb.trans (h.mono hB)) 3 _ rfl, hcc X (hb.trans (h.mono hB)) 4 _ rfl, hcc X (hb.trans (h.mono hB)) 5 _ rfl, hcc X (hb.trans (h.mono hB)) 6 _ rfl, hcc X (hb.trans (h.mono hB)) 7 _ rfl⟩ :
        X.cell? ⟨g5, 0, none⟩ = some (.slice p np cp) ∧ X.cell? ⟨g5, 1, none⟩ = some (.int .i64 x) ∧ X.cell? ⟨gl, ol + k * 8, none⟩ = some (.int .i64 ch.k) ∧ X.cell? ⟨gl, ol + k * 8 + 1, none⟩ = some (.int .i64 ch.id) ∧ X.cell? ⟨gl, ol + k * 8 + 2, none⟩ = some (.int .i64 ch.wi) ∧ X.cell? ⟨gl, ol + k * 8 + 3, none⟩ = some (.string ch.nm) ∧ X.cell? ⟨gl, ol + k * 8 + 4, none⟩ = some (.string ch.ot) ∧ X.cell? ⟨gl, ol + k * 8 + 5, none⟩ = some (.int .i64 ch.ty) ∧ X.cell? ⟨gl, ol + k * 8 + 6, none⟩ = some (.int .i64 ch.pa) ∧ X.cell? ⟨gl, ol + k * 8 + 7, none⟩ = some (.string ch.sp)))
      have HC := Lib.hid (fun X (h : Below wr.heap.size wr X) => apply_any (4 * k) _ ch X (by omega) (hs.bel h))
      have bA : Below wr.heap.size wr (wr.alloc A).drew := below_drewN ((Below.refl _ _).alloc (Nat.le_refl _) _) 1
      have rA : Row (wr.alloc A).drew wr.heap.size 31 #[.slice none 0 0, .int .i64 0] := by rw [hA]; exact (Row.new _ _ _).drew
      have HBA := Lib.hid bA
      have HRA := Lib.hid rA
      have nn5 : ¬ g5 = wr.heap.size := by have := hr5.lt; omega
      have nnl : ¬ gl = wr.heap.size := by omega
      have mm5 : ¬ wr.heap.size = g5 := by omega
      have mml : ¬ wr.heap.size = gl := by omega
      have HKN := Lib.hid hkn
      have HNG : ¬ g = wr.heap.size := by have := hr.lt; omega
      have HNG2 := Lib.hid HNG
      have HG5r := Lib.hid (show g5 ≠ g by have := HG5.out; omega)
      clear hcc hch hc hkn hk hr5 hs hr hb bA rA HNG
      obtain ⟨x0, x1, x2, x3, x4, x5, x6, x7, x8, x9⟩ := HKEEP.out wr (Below.refl _ _)
      clear k0 k1
      subst hA
      go_wp2_with fail
      go_region_held3 (fun X => X.cell? ⟨g5, 0, none⟩ = some (.slice p np cp) ∧ X.cell? ⟨g5, 1, none⟩ = some (.int .i64 x) ∧ X.cell? ⟨gl, ol + k * 8, none⟩ = some (.int .i64 ch.k) ∧ X.cell? ⟨gl, ol + k * 8 + 1, none⟩ = some (.int .i64 ch.id) ∧ X.cell? ⟨gl, ol + k * 8 + 2, none⟩ = some (.int .i64 ch.wi) ∧ X.cell? ⟨gl, ol + k * 8 + 3, none⟩ = some (.string ch.nm) ∧ X.cell? ⟨gl, ol + k * 8 + 4, none⟩ = some (.string ch.ot) ∧ X.cell? ⟨gl, ol + k * 8 + 5, none⟩ = some (.int .i64 ch.ty) ∧ X.cell? ⟨gl, ol + k * 8 + 6, none⟩ = some (.int .i64 ch.pa) ∧ X.cell? ⟨gl, ol + k * 8 + 7, none⟩ = some (.string ch.sp)) (go_keep) (first | (go_simp; go_at_call 17; refine (HC.out _ (below_drewN (Below.refl _ _) 1)).mono ?_; rintro e w5 ⟨⟨v5, y5, rfl, s5⟩, b5⟩; have HX := Lib.hid ((below_drewN (Below.refl wr.heap.size wr) 1).trans b5); have kk := HKEEP.out w5 HX.out; have HS5 := Lib.hid s5; obtain ⟨a5, F5, c5, nx5, rfl, _⟩ := s5; clear b5) | (go_simp; go_at_call 17; refine (HC.out _ HBA.out).mono ?_; rintro e w5 ⟨⟨v5, y5, rfl, s5⟩, b5⟩; have HX := Lib.hid (bel_tr HBA.out b5); have HRA5 := Lib.hid (HRA.out.below b5 HRA.out.lt); have kk := HKEEP.out w5 HX.out; have HS5 := Lib.hid s5; obtain ⟨a5, F5, c5, nx5, rfl, _⟩ := s5; clear b5; have p0 : w5.cell? ⟨wr.heap.size, 0, none⟩ = some (.slice none 0 0) := HRA5.out.cell 0; have p1 : w5.cell? ⟨wr.heap.size, 1, none⟩ = some (.int .i64 0) := HRA5.out.cell 1; have p2 := HRA5.out.frozen 0; have p3 := HRA5.out.frozen 1))
      all_goals
        obtain ⟨gv, W7, egv, eW, hr7, hs7, hb7⟩ : ∃ gv W7, Value.pointer (some ⟨gv, 0, none⟩) = _ ∧ W7 = _ ∧ Row W7 gv 31 #[.slice a5 F5.length c5, .int .i64 nx5] ∧ Sch (4 * k + 2) W7 (.agg #[.slice a5 F5.length c5, .int .i64 nx5]) ∧ Below wr.heap.size wr W7 := by
          first
            | exact ⟨_, _, rfl, rfl, (HRA5.out.set 0 _).set 1 _, HS5.out.set2 HRA5.out _ _, (HX.out.setCell (p := ⟨wr.heap.size, 0, none⟩) (Nat.le_refl _) _).setCell (p := ⟨wr.heap.size, 1, none⟩) (Nat.le_refl _) _⟩
            | exact ⟨_, _, rfl, rfl, Row.new _ _ _, HS5.out.bel ((Below.refl _ _).alloc (Nat.le_refl _) _), HX.out.alloc HX.out.size _⟩
        rw [← egv, ← eW]
        clear egv eW kk
        try clear p0 p1 p2 p3
        clear x0 x1 x2 x3 x4 x5 x6 x7 x8 x9
        have HR7 := Lib.hid hr7
        have HS7 := Lib.hid hs7
        have HB7 := Lib.hid hb7
        have HR5w := Lib.hid (HR5r.out.below hb7 HR5r.out.lt)
        have HRgw := Lib.hid (HRg.out.below hb7 HRg.out.lt)
        have HBw := Lib.hid (HB.out.trans (hb7.mono HB.out.size))
        clear hr7 hs7 hb7
        by_cases hy : y5 = 0
        · have d : (y5 != 0) = false := by simp [hy]
          clear hy
          go_wp2_with (first | ((with_reducible show wpList _ _ _ (Oper.mk _ (Op.load _ _) _ _ _ _ :: _) _ _); (refine wpList_load_row rfl 31 (.tmp 7) rfl gv rfl 31 #[.slice a5 F5.length c5, .int .i64 nx5] (0, 0) _ HR7.out Try.underlying31 rfl Try.n31 ?_)) | ((with_reducible show wpList _ _ _ (Oper.mk _ (Op.store _ _ _) _ _ _ _ :: _) _ _); refine wpList_put_arr rfl 31 (.tmp 5) (.tmp 30) rfl rfl g5 31 _ #[.slice a5 F5.length c5, .int .i64 nx5] rfl rfl HR5w.out Try.n31 rfl (one_sch _ _ _ _) ?_))
          go_roundw
          case rel => exact ⟨k + 1, _, _, _, _, HKN.out, by go_num, HR5w.out.setRow _, (HS7.out.put HR5w.out _).le (by omega), HRgw.out.setRowOther _ HG5r.out.symm, below_putRow HBw.out (by have := EG.out; have := HG5.out; omega) _⟩
          case measure => have := HKN.out; simp [intOf] <;> omega
        · have d : (y5 != 0) = true := by simp [hy]
          clear hy
          have HS7b := Lib.hid (HS.out.bel HB7.out)
          have HLE := Lib.hid (show 4 * k ≤ 400 by have := HKN.out; omega)
          go_wp2_with (first | ((with_reducible show wpList _ _ _ (Oper.mk _ (Op.load _ _) _ _ _ _ :: _) _ _); (refine wpList_load_row rfl 31 (.tmp 5) rfl g5 rfl 31 #[.slice p np cp, .int .i64 x] (0, 0) _ HR5w.out Try.underlying31 rfl Try.n31 ?_)) | ((with_reducible show wpList _ _ _ (Oper.mk _ (Op.store _ _ _) _ _ _ _ :: _) _ _); refine wpList_put_arr rfl 31 (.tmp 2) (.tmp 27) rfl rfl g 31 _ #[.slice p np cp, .int .i64 x] rfl rfl HRgw.out Try.n31 rfl (one_sch _ _ _ _) ?_))
          try simp only [Exit.inBlock, Exit.then]
          refine bodyPost_ret (results_cell_slot2 (p := 2) (q := 3) (r := 4) (ty := 31) rfl _ _ g 31 #[.slice p np cp, .int .i64 x] (0, 0) _ rfl (Row.setRow HRgw.out _) Try.underlying31 rfl Try.n31) rfl ?_
          exact ⟨⟨_, _, _, rfl, (HS7b.out.put HRgw.out _).le HLE.out⟩, below_putRow HBw.out (by have := EG.out; omega) _⟩
    · have ki : ¬ (k : Int) < (n : Int) := by omega
      have HLE := Lib.hid (show 4 * k ≤ 400 by omega)
      clear hkn hk hr5 hs hr hb
      go_wp2_with (first | ((with_reducible show wpList _ _ _ (Oper.mk _ (Op.load _ _) _ _ _ _ :: _) _ _); (refine wpList_load_row rfl 31 (.tmp 5) rfl g5 rfl 31 #[.slice p np cp, .int .i64 x] (0, 0) _ HR5r.out Try.underlying31 rfl Try.n31 ?_)) | ((with_reducible show wpList _ _ _ (Oper.mk _ (Op.store _ _ _) _ _ _ _ :: _) _ _); refine wpList_put_arr rfl 31 (.tmp 2) (.tmp 31) rfl rfl g 31 _ #[.slice p np cp, .int .i64 x] rfl rfl HRg.out Try.n31 rfl (one_sch _ _ _ _) ?_))
      try simp only [Exit.inBlock, Exit.then]
      refine bodyPost_ret (results_cell_slot2 (p := 2) (q := 3) (r := 4) (ty := 31) rfl _ _ g 31 #[.slice p np cp, .int .i64 x] (0, 0) _ rfl (Row.setRow HRg.out _) Try.underlying31 rfl Try.n31) rfl ?_
      exact ⟨⟨_, _, _, rfl, (HS.out.put HRg.out _).le HLE.out⟩, below_putRow HB.out (by have := EG.out; omega) _⟩
end Go.Proofs.Ytkonoojmhjinpaa
