/- Contracts: Made. -/
import Derived.Test.YtkonoojmhjinpaaQ
set_option linter.all false
namespace Go.Proofs.Ytkonoojmhjinpaa
open Go.RowKit Go.Fen
set_option linter.unusedVariables false
set_option maxHeartbeats 4000000

/-- a list of changes is returned -/
def RetCL (m : Nat) (e : Ending) (w : World) : Prop := ∃ (a : Option Addr) (M : List Ch) (c : Nat), e = .returned (.slice a M.length c) ∧ M.length ≤ m ∧ Ls 8 chc w a M
theorem Try.info76 : (Try.prog.info? 76).map (fun i => (i.zero, i.size, i.bytes)) = some (some (.agg #[.int .i64 0, .int .i64 0, .int .i64 0, .string ⟨#[]⟩, .string ⟨#[]⟩, .int .i64 0, .int .i64 0, .string ⟨#[]⟩]), 8, 88) := by kernel_rfl
/-- a list of another type has grown -/
theorem Sch.grown {m : Nat} {w w' : World} {v u : Value} {base n k : Nat} {e : TypeId} {xs : List Value} (h : Sch m w v) (ho : w.ownsRow base e k u n xs) (he : e ≠ 126) (hg : w.grownBy w' u.ownBlock) : Sch m w' v := by
  obtain ⟨a, F, c, nx, ev, h1, h4⟩ := h
  refine ⟨a, F, c, nx, ev, h1, ?_⟩
  rcases ho.2 with ⟨hv, _⟩ | ⟨g, cap, cur, hv, _, hr, _⟩
  · subst hv
    exact h4.bel (Below.grown (Below.refl _ _) hg (Nat.le_refl _) (fun k hk => by cases hk))
  · subst hv
    exact h4.but (g := g) (t := e) (z := cur) hr he hg.size fun k hk hne => hg.block k hk (by intro q; exact hne (Option.some.inj q))
set_option maxRecDepth 20000 in
theorem made_any (a : Option Addr) (L : List Ch) (n c nn : Nat) (w : World) (hn : n = L.length) (hn6 : n ≤ 9223372036854775807) (hnn : nn ≤ 100) (hL : Ls 8 chc w a L) : Calls Try.prog 6 #[.slice a n c, .int .i64 nn] w fun e w' => RetCL nn e w' ∧ Below w.heap.size w w' := by
  have HN := Lib.hid hn
  have HL := Lib.hid hL
  clear hn hL
  go_enter Try.func6, Try.ntmps6
  go_wp2_with (first | (fail))
  refine (new_any _).mono ?_
  rintro e w1 ⟨⟨v1, rfl, s1⟩, b1⟩
  have HS1 := Lib.hid s1
  obtain ⟨a1, F1, c1, nx1, rfl, _, _⟩ := s1
  obtain ⟨n1, hn1⟩ : ∃ n, n = F1.length := ⟨_, rfl⟩
  rw [← hn1] at HS1 ⊢
  obtain ⟨g5, hg5⟩ : ∃ x, x = w1.heap.size := ⟨_, rfl⟩
  obtain ⟨W2, hW2⟩ : ∃ W, W = w1.alloc (.cells #[.slice a1 n1 c1, .int .i64 nx1] 31) := ⟨_, rfl⟩
  obtain ⟨B, hB⟩ : ∃ x, x = W2.heap.size := ⟨_, rfl⟩
  obtain ⟨W3, hW3⟩ : ∃ W, W = W2.alloc (.cells #[] 76) := ⟨_, rfl⟩
  have b2 : Below w1.heap.size w1 W2 := by rw [hW2]; exact (Below.refl _ _).alloc (Nat.le_refl _) _
  have b3 : Below W2.heap.size W2 W3 := by rw [hW3]; exact (Below.refl _ _).alloc (Nat.le_refl _) _
  have R5 : Row W3 g5 31 #[.slice a1 n1 c1, .int .i64 nx1] := by rw [hW3, hW2]; exact (Row.new' 31 _ hg5).alloc _
  have HO := Lib.hid (show W3.ownsRow B 76 8 (.slice (some ⟨B, 0, none⟩) 0 0) ([] : List Ch).length (([] : List Ch).flatMap chc) by rw [hW3, hB]; exact owns_lit W2 _ (Nat.le_refl _) 76 8)
  have HB3 := Lib.hid (bel_tr b1 (bel_tr b2 b3))
  have HBS3 := Lib.hid (show B ≤ W3.heap.size by rw [hB]; exact b3.size)
  have HS3 := Lib.hid ((HS1.out.bel b2).bel b3)
  have HR5 := Lib.hid R5
  have HG5 := Lib.hid (show w.heap.size ≤ g5 ∧ g5 < B by rw [hB, hW2, hg5]; exact ⟨b1.size, by simp⟩)
  have HW2 := Lib.hid hW2
  have HW3 := Lib.hid hW3
  have HGE := Lib.hid hg5
  clear hW3 hg5 R5 b2 b1 b3 hn1 hW2
  go_upto_region 3 with (first | ((with_reducible show wpList _ _ _ (Oper.mk _ (Op.alloc _) _ _ _ _ :: _) _ _); (refine wpList_new_row rfl rfl 31 5 (.tmp 11) rfl rfl rfl rfl g5 HGE.out #[.slice a1 n1 c1, .int .i64 nx1] rfl rfl _ Try.z31 Try.n31 rfl (one_sch _ _ _ _) ?_; refine wpList_atE HW2.out ?_)))
  rw [← HW3.out, ← hB]
  clear hB
  go_wp2_with fail
  go_loopw [6, 7] (fun uv iv wr => ∃ (k : Nat) (p : Option Addr) (np cp : Nat) (x : Int) (M : List Ch), k ≤ n ∧ k ≤ nn ∧ M.length ≤ k ∧ iv = .int .i64 k ∧ wr.ownsRow B 76 8 uv M.length (M.flatMap chc) ∧ Row wr g5 31 #[.slice p np cp, .int .i64 x] ∧ Sch (4 * k) wr (.agg #[.slice p np cp, .int .i64 x]) ∧ Below w.heap.size w wr ∧ B ≤ wr.heap.size) (fun _ iv _ => n - (intOf iv).toNat)
  case atStart => exact ⟨0, _, _, _, _, [], by omega, by omega, by simp, rfl, HO.out, HR5.out, HS3.out, HB3.out, HBS3.out⟩
  case round =>
    obtain ⟨k, p, np, cp, x, M, hk, hkm, hM, rfl, ho, hr5, hs, hb, hbs⟩ := hrel
    have HBS := Lib.hid hbs
    clear hbs
    have k0 : wr.cell? ⟨g5, 0, none⟩ = some (.slice p np cp) := hr5.cell 0
    have k1 : wr.cell? ⟨g5, 1, none⟩ = some (.int .i64 x) := hr5.cell 1
    have HO := Lib.hid ho
    have HS := Lib.hid hs
    have HR5r := Lib.hid hr5
    have HB := Lib.hid hb
    have HM := Lib.hid (And.intro hM hkm)
    have END : ∀ X, X = wr → RetCL nn (.returned u6) X ∧ Below w.heap.size w X := by
      rintro X rfl
      obtain ⟨ax, cx, ev, hls⟩ := ls_of_own length_chc ho rfl
      exact ⟨⟨ax, M, cx, by rw [ev], by omega, hls⟩, hb⟩
    have HEND := Lib.hid (END wr rfl)
    clear END
    by_cases hkn : k < n
    case neg =>
      have ki : ¬ (k : Int) < (n : Int) := by omega
      clear hkn hk hkm hM hr5 hs hb ho
      go_wp2_with fail
      first | go_ret | ((try simp only [Exit.inBlock, Exit.then]); go_ret)
      exact HEND.out
    have ki : (k : Int) < (n : Int) := by omega
    by_cases hkn2 : k < nn
    case neg =>
      have ki2 : ¬ (k : Int) < (nn : Int) := by omega
      clear hkn hkn2 hk hkm hM hr5 hs hb ho
      go_wp2_with fail
      first | go_ret | ((try simp only [Exit.inBlock, Exit.then]); go_ret)
      exact HEND.out
    have ki2 : (k : Int) < (nn : Int) := by omega
    obtain ⟨gl, ol, rfl, hgl, hc⟩ := HL.out.some (by rw [← HN.out]; omega)
    obtain ⟨ch, hch⟩ : ∃ f, L[k]? = some f := ⟨_, List.getElem?_eq_getElem (by rw [← HN.out]; exact hkn)⟩
    have hcc : ∀ X, Below w.heap.size w X → X.rangeAt gl (ol + k * 8) (chc ch) := fun X hX => range_below (hc k ch hch) hX hgl
    have hB : w.heap.size ≤ wr.heap.size := hb.size
    obtain ⟨A, hA⟩ : ∃ A, A = Obj.cells #[.int .i64 0, .int .i64 0, .int .i64 0, .string ⟨#[]⟩, .string ⟨#[]⟩, .int .i64 0, .int .i64 0, .string ⟨#[]⟩] 76 := ⟨_, rfl⟩
    have HKEEP := Lib.hid (fun X (h : Below wr.heap.size wr X) => (⟨(hr5.below h hr5.lt).cell 0, (hr5.below h hr5.lt).cell 1, by have := hcc X (hb.trans (h.mono hB)) 0 _ rfl; rw [Nat.add_zero] at this; exact this, hcc X (hb.trans (h.mono hB)) 1 _ rfl, hcc X (hb.trans (h.mono hB)) 2 _ rfl, hcc X (hb.trans (h.mono hB)) 3 _ rfl, hcc X (hb.trans (h.mono hB)) 4 _ rfl, hcc X (hb.trans (h.mono hB)) 5 _ rfl, hcc X (hb.trans (h.mono hB)) 6 _ rfl, hcc X (hb.trans (h.mono hB)) 7 _ rfl⟩ :
        X.cell? ⟨g5, 0, none⟩ = some (.slice p np cp) ∧ X.cell? ⟨g5, 1, none⟩ = some (.int .i64 x) ∧ X.cell? ⟨gl, ol + k * 8, none⟩ = some (.int .i64 ch.k) ∧ X.cell? ⟨gl, ol + k * 8 + 1, none⟩ = some (.int .i64 ch.id) ∧ X.cell? ⟨gl, ol + k * 8 + 2, none⟩ = some (.int .i64 ch.wi) ∧ X.cell? ⟨gl, ol + k * 8 + 3, none⟩ = some (.string ch.nm) ∧ X.cell? ⟨gl, ol + k * 8 + 4, none⟩ = some (.string ch.ot) ∧ X.cell? ⟨gl, ol + k * 8 + 5, none⟩ = some (.int .i64 ch.ty) ∧ X.cell? ⟨gl, ol + k * 8 + 6, none⟩ = some (.int .i64 ch.pa) ∧ X.cell? ⟨gl, ol + k * 8 + 7, none⟩ = some (.string ch.sp)))
    have HC := Lib.hid (fun X (h : Below wr.heap.size wr X) => (change_any (4 * k) _ ch X (by omega) (hs.bel h)).mono (R' := fun e X' => (∃ c2 : Ch, e = .returned (.agg #[.int .i64 c2.k, .int .i64 c2.id, .int .i64 c2.wi, .string c2.nm, .string c2.ot, .int .i64 c2.ty, .int .i64 c2.pa, .string c2.sp])) ∧ Below X.heap.size X X') (fun e X' hh => hh))
    have bA : Below wr.heap.size wr (wr.alloc A).drew := below_drewN ((Below.refl _ _).alloc (Nat.le_refl _) _) 1
    have rA : Row (wr.alloc A).drew wr.heap.size 76 #[.int .i64 0, .int .i64 0, .int .i64 0, .string ⟨#[]⟩, .string ⟨#[]⟩, .int .i64 0, .int .i64 0, .string ⟨#[]⟩] := by rw [hA]; exact (Row.new _ _ _).drew
    have HBA := Lib.hid bA
    have HRA := Lib.hid rA
    have nn5 : ¬ g5 = wr.heap.size := by have := hr5.lt; omega
    have nnl : ¬ gl = wr.heap.size := by omega
    have mm5 : ¬ wr.heap.size = g5 := by omega
    have mml : ¬ wr.heap.size = gl := by omega
    have HKN := Lib.hid (And.intro hkn hkn2)
    have HK := Lib.hid (show 4 * k ≤ 400 by omega)
    clear hcc hch hc hkn hkn2 hk hkm hM hr5 hs hb bA rA ho
    obtain ⟨x0, x1, x2, x3, x4, x5, x6, x7, x8, x9⟩ := HKEEP.out wr (Below.refl _ _)
    clear k0 k1
    subst hA
    go_wp2_with fail
    go_region_held3 (fun X => X.cell? ⟨g5, 0, none⟩ = some (.slice p np cp) ∧ X.cell? ⟨g5, 1, none⟩ = some (.int .i64 x) ∧ X.cell? ⟨gl, ol + k * 8, none⟩ = some (.int .i64 ch.k) ∧ X.cell? ⟨gl, ol + k * 8 + 1, none⟩ = some (.int .i64 ch.id) ∧ X.cell? ⟨gl, ol + k * 8 + 2, none⟩ = some (.int .i64 ch.wi) ∧ X.cell? ⟨gl, ol + k * 8 + 3, none⟩ = some (.string ch.nm) ∧ X.cell? ⟨gl, ol + k * 8 + 4, none⟩ = some (.string ch.ot) ∧ X.cell? ⟨gl, ol + k * 8 + 5, none⟩ = some (.int .i64 ch.ty) ∧ X.cell? ⟨gl, ol + k * 8 + 6, none⟩ = some (.int .i64 ch.pa) ∧ X.cell? ⟨gl, ol + k * 8 + 7, none⟩ = some (.string ch.sp)) (go_keep) (first | (go_simp; go_at_call 18; refine (HC.out _ (below_drewN (Below.refl _ _) 1)).mono ?_; rintro e w5 ⟨⟨c2, rfl⟩, b5⟩; have HX := Lib.hid ((below_drewN (Below.refl wr.heap.size wr) 1).trans b5); have kk := HKEEP.out w5 HX.out; clear b5) | (go_simp; go_at_call 18; refine (HC.out _ HBA.out).mono ?_; rintro e w5 ⟨⟨c2, rfl⟩, b5⟩; have HX := Lib.hid (bel_tr HBA.out b5); have HRA5 := Lib.hid (HRA.out.below b5 HRA.out.lt); have kk := HKEEP.out w5 HX.out; clear b5; have p0 : w5.cell? ⟨wr.heap.size, 0, none⟩ = some (.int .i64 0) := HRA5.out.cell 0; have f0 := HRA5.out.frozen 0; have p1 : w5.cell? ⟨wr.heap.size, 1, none⟩ = some (.int .i64 0) := HRA5.out.cell 1; have f1 := HRA5.out.frozen 1; have p2 : w5.cell? ⟨wr.heap.size, 2, none⟩ = some (.int .i64 0) := HRA5.out.cell 2; have f2 := HRA5.out.frozen 2; have p3 : w5.cell? ⟨wr.heap.size, 3, none⟩ = some (.string ⟨#[]⟩) := HRA5.out.cell 3; have f3 := HRA5.out.frozen 3; have p4 : w5.cell? ⟨wr.heap.size, 4, none⟩ = some (.string ⟨#[]⟩) := HRA5.out.cell 4; have f4 := HRA5.out.frozen 4; have p5 : w5.cell? ⟨wr.heap.size, 5, none⟩ = some (.int .i64 0) := HRA5.out.cell 5; have f5 := HRA5.out.frozen 5; have p6 : w5.cell? ⟨wr.heap.size, 6, none⟩ = some (.int .i64 0) := HRA5.out.cell 6; have f6 := HRA5.out.frozen 6; have p7 : w5.cell? ⟨wr.heap.size, 7, none⟩ = some (.string ⟨#[]⟩) := HRA5.out.cell 7; have f7 := HRA5.out.frozen 7))
    all_goals
      obtain ⟨gv, W7, egv, eW, hr7, hb7⟩ : ∃ gv W7, Value.pointer (some ⟨gv, 0, none⟩) = _ ∧ W7 = _ ∧ Row W7 gv 76 #[.int .i64 c2.k, .int .i64 c2.id, .int .i64 c2.wi, .string c2.nm, .string c2.ot, .int .i64 c2.ty, .int .i64 c2.pa, .string c2.sp] ∧ Below wr.heap.size wr W7 := by
        first
          | exact ⟨_, _, rfl, rfl, ((((((((HRA5.out.set 0 _).set 1 _).set 2 _).set 3 _).set 4 _).set 5 _).set 6 _).set 7 _), ((((((((HX.out.setCell (p := ⟨wr.heap.size, 0, none⟩) (Nat.le_refl _) _).setCell (p := ⟨wr.heap.size, 1, none⟩) (Nat.le_refl _) _).setCell (p := ⟨wr.heap.size, 2, none⟩) (Nat.le_refl _) _).setCell (p := ⟨wr.heap.size, 3, none⟩) (Nat.le_refl _) _).setCell (p := ⟨wr.heap.size, 4, none⟩) (Nat.le_refl _) _).setCell (p := ⟨wr.heap.size, 5, none⟩) (Nat.le_refl _) _).setCell (p := ⟨wr.heap.size, 6, none⟩) (Nat.le_refl _) _).setCell (p := ⟨wr.heap.size, 7, none⟩) (Nat.le_refl _) _)⟩
          | exact ⟨_, _, rfl, rfl, Row.new _ _ _, HX.out.alloc HX.out.size _⟩
      rw [← egv, ← eW]
      clear egv eW kk
      try clear p0 p1 p2 p3 p4 p5 p6 p7 f0 f1 f2 f3 f4 f5 f6 f7
      clear x0 x1 x2 x3 x4 x5 x6 x7 x8 x9
      have HR7 := Lib.hid (fun X (h : Below W7.heap.size W7 X) => (show Row X gv 76 (chc c2).toArray from hr7.below h hr7.lt))
      have HZ7 := Lib.hid (Nat.le_trans HBS.out hb7.size)
      have HS7 := Lib.hid (HS.out.bel hb7)
      have HR5w := Lib.hid (fun X (h : Below W7.heap.size W7 X) => (HR5r.out.below hb7 HR5r.out.lt).below h (Nat.lt_of_lt_of_le HR5r.out.lt hb7.size))
      have HO7 := Lib.hid (owns_below HO.out hb7 (Nat.le_refl _))
      have HBw := Lib.hid (HB.out.trans (hb7.mono HB.out.size))
      have HBr := Lib.hid (Below.refl W7.heap.size W7)
      clear hr7 hb7
      go_wp2_with (first | ((with_reducible show wpList _ _ _ (Oper.mk _ (Op.load _ _) _ _ _ _ :: _) _ _); first | (refine wpList_load_row rfl 31 (.tmp 5) rfl g5 rfl 31 #[.slice p np cp, .int .i64 x] (0, 0) _ (HR5w.out _ HBr.out) Try.underlying31 rfl Try.n31 ?_) | (refine wpList_load_row rfl 76 (.tmp 8) rfl gv rfl 76 (chc c2).toArray (0, 0) _ (HR7.out _ HBr.out) Try.underlying76 rfl Try.n76 ?_)))
      refine (apply_any (4 * k) _ c2 _ (by have := HK.out; omega) HS7.out).mono ?_
      rintro e w8 ⟨⟨v8, y8, rfl, s8⟩, b8⟩
      have HS8 := Lib.hid s8
      obtain ⟨a8, F8, c8, nx8, rfl, _⟩ := s8
      obtain ⟨n8, hn8⟩ : ∃ n, n = F8.length := ⟨_, rfl⟩
      rw [← hn8] at HS8 ⊢
      obtain ⟨g9, hg9⟩ : ∃ x, x = w8.heap.size := ⟨_, rfl⟩
      obtain ⟨W9, hW9⟩ : ∃ W, W = w8.alloc (.cells #[.slice a8 n8 c8, .int .i64 nx8] 31) := ⟨_, rfl⟩
      have b9 : Below w8.heap.size w8 W9 := by rw [hW9]; exact (Below.refl _ _).alloc (Nat.le_refl _) _
      have R9 : Row W9 g9 31 #[.slice a8 n8 c8, .int .i64 nx8] := by rw [hW9]; exact Row.new' 31 _ hg9
      have HX9 := Lib.hid (bel_tr b8 b9)
      have HS9 := Lib.hid (HS8.out.bel b9)
      have HS9o := Lib.hid (HS7.out.bel (bel_tr b8 b9))
      have HO9 := Lib.hid (owns_below HO7.out (bel_tr b8 b9) (Nat.le_refl _))
      have HBw9 := Lib.hid (HBw.out.trans ((bel_tr b8 b9).mono HBw.out.size))
      have HR9 := Lib.hid R9
      have HR59 := Lib.hid (HR5w.out _ (bel_tr b8 b9))
      have HR79 := Lib.hid (HR7.out _ (bel_tr b8 b9))
      have HGV := Lib.hid (show gv ≠ g5 by
        intro e
        have q1 := HR7.out _ HBr.out
        have q2 := HR5w.out _ HBr.out
        rw [e] at q1
        unfold Row at q1 q2
        rw [q1] at q2
        injection q2 with q2
        injection q2 with _ q3 _
        exact absurd q3 (by decide))
      have HW9 := Lib.hid hW9
      have HG9 := Lib.hid hg9
      clear hW9 hg9 R9 b8 b9 hn8
      by_cases hy : y8 = 0
      case neg =>
        have d : (y8 == 0) = false := by simp [hy]
        clear hy
        go_wp2_with (first | ((with_reducible show wpList _ _ _ (Oper.mk _ (Op.alloc _) _ _ _ _ :: _) _ _); (refine wpList_new_row rfl rfl 31 9 (.tmp 34) rfl rfl rfl rfl g9 HG9.out #[.slice a8 n8 c8, .int .i64 nx8] rfl rfl _ Try.z31 Try.n31 rfl (one_sch _ _ _ _) ?_; refine wpList_atE HW9.out ?_)))
        go_roundw
        case rel => exact ⟨k + 1, _, _, _, _, M, HKN.out.1, HKN.out.2, by have := HM.out.1; omega, by go_num, HO9.out, HR59.out, HS9o.out.le (by omega), HBw9.out, Nat.le_trans HZ7.out HX9.out.size⟩
        case measure => have := HKN.out.1; simp [intOf] <;> omega
      have d : (y8 == 0) = true := by simp [hy]
      clear hy
      obtain ⟨W10, hW10⟩ : ∃ W, W = W9.setRow g5 #[.slice a8 n8 c8, .int .i64 nx8] := ⟨_, rfl⟩
      have HR10 := Lib.hid (show Row W10 g5 31 #[.slice a8 n8 c8, .int .i64 nx8] by rw [hW10]; exact HR59.out.setRow _)
      have HR710 := Lib.hid (show Row W10 gv 76 (chc c2).toArray by rw [hW10]; exact HR79.out.setRowOther _ HGV.out)
      have HS10 := Lib.hid (show Sch (4 * k + 2) W10 (.agg #[.slice a8 n8 c8, .int .i64 nx8]) by rw [hW10]; exact HS9.out.put HR59.out _)
      have HO10 := Lib.hid (show W10.ownsRow B 76 8 u6 M.length (M.flatMap chc) by rw [hW10]; exact owns_put HO9.out HG5.out.2 _)
      have HB10 := Lib.hid (show Below w.heap.size w W10 by rw [hW10]; exact below_putRow HBw9.out HG5.out.1 _)
      have HBB10 := Lib.hid (show B ≤ W10.heap.size by rw [hW10]; have h1 := HX9.out.size; have h2 := HZ7.out; simp <;> omega)
      have HW10 := Lib.hid hW10.symm
      clear hW10
      go_upto_region 10 with (first | ((with_reducible show wpList _ _ _ (Oper.mk _ (Op.alloc _) _ _ _ _ :: _) _ _); (refine wpList_new_row rfl rfl 31 9 (.tmp 34) rfl rfl rfl rfl g9 HG9.out #[.slice a8 n8 c8, .int .i64 nx8] rfl rfl _ Try.z31 Try.n31 rfl (one_sch _ _ _ _) ?_; refine wpList_atE HW9.out ?_)) | ((with_reducible show wpList _ _ _ (Oper.mk _ (Op.load _ _) _ _ _ _ :: _) _ _); (refine wpList_load_row rfl 31 (.tmp 9) rfl g9 rfl 31 #[.slice a8 n8 c8, .int .i64 nx8] (0, 0) _ HR9.out Try.underlying31 rfl Try.n31 ?_)) | ((with_reducible show wpList _ _ _ (Oper.mk _ (Op.store _ _ _) _ _ _ _ :: _) _ _); refine wpList_put_arr rfl 31 (.tmp 5) (.tmp 38) rfl rfl g5 31 _ #[.slice a8 n8 c8, .int .i64 nx8] rfl rfl HR59.out Try.n31 rfl (one_sch _ _ _ _) ?_))
      rw [HW10.out]
      go_wp2_with (first | ((with_reducible show wpList _ _ _ (Oper.mk _ (Op.load _ _) _ _ _ _ :: _) _ _); (refine wpList_load_row rfl 76 (.tmp 8) rfl gv rfl 76 #[.int .i64 c2.k, .int .i64 c2.id, .int .i64 c2.wi, .string c2.nm, .string c2.ot, .int .i64 c2.ty, .int .i64 c2.pa, .string c2.sp] (0, 0) _ HR710.out Try.underlying76 rfl Try.n76 ?_)) | ((with_reducible show wpList _ _ _ (Oper.mk _ (Op.call _) _ _ _ _ :: _) _ _); (refine wpList_pushK rfl (.tmp 39) (.tmp 41) 22 76 rfl _ 8 88 Try.underlying22 Try.info76 rfl (by decide) (by decide) B u6 M.length (M.flatMap chc) rfl W10 _ (chc c2) rfl (one_chs c2) rfl HO10.out HBB10.out W10.heap.size rfl rfl (by have := HM.out; omega) (fun ge ce w2 hv' hg => ?_); have HV := Lib.hid hv'; have HG := Lib.hid hg; clear hv' hg)))
      have b10 : Below W10.heap.size W10 (W10.alloc (.cells (chc c2).toArray 76)) := (Below.refl _ _).alloc (Nat.le_refl _) _
      have ho11 := owns_below HO10.out b10 (Nat.le_refl _)
      have hs11 := (HS10.out.bel b10).grown ho11 (by decide) HG.out
      have hr11 := (HR10.out.below b10 HR10.out.lt).grown HG.out (fun e => by have h1 := (ho11.lt g5 e.symm).1; have := HG5.out.2; omega)
      have hb11 : Below w.heap.size w w2 := Below.grown (HB10.out.trans (b10.mono HB10.out.size)) HG.out (Nat.le_trans HB10.out.size b10.size) (fun q hq => by have h1 := (ho11.lt q hq).1; have := HG5.out; omega)
      go_roundw
      case rel => exact ⟨k + 1, _, _, _, _, M ++ [c2], HKN.out.1, HKN.out.2, by have := HM.out.1; simp; omega, by go_num, by rw [List.length_append, ← fl_snoc]; exact HV.out, hr11, hs11.le (by omega), hb11, Nat.le_trans HBB10.out (Nat.le_trans b10.size HG.out.size)⟩
      case measure => have := HKN.out.1; simp [intOf] <;> omega
end Go.Proofs.Ytkonoojmhjinpaa
