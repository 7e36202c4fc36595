/- Contracts: plus. -/
import Derived.Test.YtkonoojmhjinpaaE
set_option linter.all false
namespace Go.Proofs.Ytkonoojmhjinpaa
open Go.RowKit Go.Fen
set_option linter.unusedVariables false
set_option maxHeartbeats 4000000

theorem owns_snoc {α : Type} {w : World} {B k n : Nat} {e : TypeId} {v : Value} {c : α → List Value} {F : List α} {x : α} (h : w.ownsRow B e k v (n + 1) (F.flatMap c ++ c x)) (hn : n = F.length) : w.ownsRow B e k v (F ++ [x]).length ((F ++ [x]).flatMap c) := by
  subst hn; rw [List.length_append, ← fl_snoc]; exact h
/-- a list is copied while a variable stands at gv -/
theorem copy_facts {W X w' : World} {B gv b : Nat} {v' : Value} {z : Array Value} (hX : Below B W X) (hBX : B ≤ X.heap.size) (hr : Row X gv 31 z) (hb : b ≠ gv) (hBb : B ≤ b) (hg : X.grownBy w' (some b)) (hl : v'.ownBlock = some b ∨ v'.ownBlock = some X.heap.size) :
    Below B W w' ∧ Row w' gv 31 z ∧ v'.ownBlock ≠ some gv := by
  refine ⟨Below.grown hX hg hBX (fun k hk => by injection hk with hk; omega), hr.grown hg (by intro e; injection e with e; exact hb e.symm), ?_⟩
  have := hr.lt
  rcases hl with e | e <;> rw [e] <;> intro e <;> injection e with e <;> omega

theorem accH_new {B : Nat} {W w' : World} {v : Value} {n : Nat} {e : TypeId} {k : Nat} {xs : List Value} (hV : w'.ownsRow B e k v n xs) (hB : Below B W w') (hs : B ≤ w'.heap.size) (nx : Int) : AccH B W w'.heap.size 31 (mkS nx) e k v n xs (w'.alloc (.cells #[v, .int .i64 nx] 31)) :=
  ⟨owns_below hV ((Below.refl _ _).alloc (Nat.le_refl _) _) (Nat.le_refl _), fun e => by have := (hV.lt _ e).2; omega, Row.new _ _ _, hs, hB.alloc hs _⟩
theorem accH_set {B gv : Nat} {W w' : World} {v z0 z1 : Value} {n : Nat} {e : TypeId} {k : Nat} {xs : List Value} (hV : w'.ownsRow B e k v n xs) (hB : Below B W w') (hr : Row w' gv 31 #[z0, z1]) (hne : v.ownBlock ≠ some gv) (hg : B ≤ gv) (nx : Int) :
    AccH B W gv 31 (mkS nx) e k v n xs ((w'.setCell ⟨gv, 0, none⟩ v).setCell ⟨gv, 1, none⟩ (.int .i64 nx)) :=
  ⟨owns_grown hV (grown_set (grown_set (grown_refl w' (some gv)) 0 v) 1 (.int .i64 nx)) (.inl hne), hne, (hr.set 0 v).set 1 (.int .i64 nx), hg, (hB.setCell (p := ⟨gv, 0, none⟩) hg _).setCell (p := ⟨gv, 1, none⟩) hg _⟩

set_option maxRecDepth 20000 in
theorem plus_any (m : Nat) (v : Value) (f : Fl) (w : World) (hm : m ≤ 1000) (hS : Sch m w v) : Calls Try.prog 61 #[v, .agg (flc f).toArray] w fun e w' => RetSch (m + 1) e w' ∧ Below w.heap.size w w' := by
  obtain ⟨a, F, c, nx, rfl, hF, hL⟩ := hS
  obtain ⟨n, hn⟩ : ∃ n, n = F.length := ⟨_, rfl⟩
  rw [← hn]
  have n6 : n ≤ 1000 := by omega
  obtain ⟨g, eg⟩ : ∃ g, g = w.heap.size := ⟨_, rfl⟩
  obtain ⟨W0, hW0⟩ : ∃ W, W = w.alloc (.cells #[.slice a n c, .int .i64 nx] 31) := ⟨_, rfl⟩
  obtain ⟨W1, hW1⟩ : ∃ W, W = W0.alloc (.cells (flc f).toArray 126) := ⟨_, rfl⟩
  obtain ⟨W2, hW2⟩ : ∃ W, W = W1.alloc (.cells #[.slice none 0 0, .int .i64 0] 31) := ⟨_, rfl⟩
  obtain ⟨W3, hW3⟩ : ∃ W, W = W2.setCell ⟨g + 1, 0, none⟩ (.int .i64 nx) := ⟨_, rfl⟩
  have z0 : W0.heap.size = g + 1 := by rw [hW0, eg]; simp
  have z1 : W1.heap.size = g + 1 + 1 := by rw [hW1, World.size_alloc, z0]
  have z2 : W2.heap.size = g + 1 + 1 + 1 := by rw [hW2, World.size_alloc, z1]
  have z3 : W3.heap.size = g + 1 + 1 + 1 := by rw [hW3]; simpa using z2
  have hb2 : Below w.heap.size w W2 := by rw [hW2, hW1, hW0]; exact (((Below.refl _ _).alloc (Nat.le_refl _) _).alloc (by simp) _).alloc (by simp <;> omega) _
  have hb : Below w.heap.size w W3 := by rw [hW3]; exact hb2.setCell (p := ⟨g + 1, 0, none⟩) (by show w.heap.size ≤ g + 1; omega) _
  have R0 : Row W2 g 31 #[.slice a n c, .int .i64 nx] := by rw [hW2, hW1, hW0, eg]; exact ((Row.new w 31 _).alloc _).alloc _
  have R1 : Row W2 (g + 1) 126 (flc f).toArray := by rw [hW2, hW1]; exact ((Row.new' 126 _ z0.symm).alloc _)
  have R2 : Row W2 (g + 1 + 1) 31 #[.slice none 0 0, .int .i64 0] := by rw [hW2]; exact (Row.new' 31 _ z1.symm)
  have S0 : Row W3 g 31 #[.slice a n c, .int .i64 nx] := by rw [hW3]; exact R0.setOther (by show g ≠ g + 1; omega) _
  have S1 : Row W3 (g + 1) 126 (flc (Fl.mk nx f.nm f.sz f.ty f.pa)).toArray := by rw [hW3]; exact R1.set 0 _
  have S2 : Row W3 (g + 1 + 1) 31 #[.slice none 0 0, .int .i64 0] := by rw [hW3]; exact R2.setOther (by show g + 1 + 1 ≠ g + 1; omega) _
  have k1 : W2.cell? ⟨g, 1, none⟩ = some (.int .i64 nx) := R0.cell 1
  have kf : W2.cell? ⟨g + 1, 0, none⟩ = some (.int .i64 f.id) := R1.cell 0
  have kz := R1.frozen 0
  have HW0 := Lib.hid hW0
  have HW1 := Lib.hid hW1
  have HW2 := Lib.hid hW2
  have HW3 := Lib.hid hW3.symm
  have EG := Lib.hid eg
  have Z0 := Lib.hid z0
  have Z1 := Lib.hid z1
  have Z2 := Lib.hid z2
  have Z3 := Lib.hid z3
  have HB := Lib.hid hb
  have HL := Lib.hid (hL.bel hb)
  have HN := Lib.hid hn
  have HF := Lib.hid hF
  have HS0 := Lib.hid S0
  have HS1 := Lib.hid S1
  have HS2 := Lib.hid S2
  clear hW0 hW1 hW2 hW3 eg z0 z1 z2 z3 hb hb2 R0 R1 R2 S0 S1 S2 hL hn hF
  go_enter Try.func61, Try.ntmps61
  go_wp2_with (first | ((with_reducible show wpList _ _ _ (Oper.mk _ (Op.box _ _) _ _ _ _ :: _) _ _); (first | (refine wpList_box_row rfl 31 (.tmp 0) rfl _ rfl g EG.out ?_; refine wpList_atE HW0.out ?_) | (refine wpList_box_row rfl 126 (.tmp 1) rfl _ rfl (g + 1) Z0.out.symm ?_; refine wpList_atE HW1.out ?_))) | ((with_reducible show wpList _ _ _ (Oper.mk _ (Op.alloc _) _ _ _ _ :: _) _ _); (first | (refine wpList_alloc_row rfl 31 rfl #[.slice none 0 0, .int .i64 0] Try.z31 (g + 1 + 1) Z1.out.symm ?_; refine wpList_atE HW2.out ?_))))
  rw [HW3.out]
  obtain ⟨B, hB⟩ : ∃ B, B = g + 1 + 1 + 1 := ⟨_, rfl⟩
  have s0 : W3.cell? ⟨g, 0, none⟩ = some (.slice a n c) := HS0.out.cell 0
  have s1 : W3.cell? ⟨g, 1, none⟩ = some (.int .i64 nx) := HS0.out.cell 1
  have sB : W3.heap.size = B := by rw [hB]; exact Z3.out
  obtain ⟨A, hA⟩ : ∃ A, A = Obj.cells #[.slice none 0 0, .int .i64 0] 31 := ⟨_, rfl⟩
  obtain ⟨E, hE⟩ : ∃ E, E = Obj.cells #[] 126 := ⟨_, rfl⟩
  -- the variable first, then the empty list
  have bX1 : Below B W3 ((W3.alloc A).alloc E).drew := below_drewN (((Below.refl _ _).alloc (by omega) _).alloc (by simp <;> omega) _) 1
  have bX2 : Below B W3 ((W3.alloc E).alloc A).drew := below_drewN (((Below.refl _ _).alloc (by omega) _).alloc (by simp <;> omega) _) 1
  have bX3 : Below B W3 (W3.alloc E).drew := below_drewN ((Below.refl _ _).alloc (by omega) _) 1
  have o1 : ((W3.alloc A).alloc E).drew.ownsRow B 126 4 (.slice (some ⟨B + 1, 0, none⟩) 0 0) 0 [] := by
    have := owns_lit (W3.alloc A) B (by simp; omega) 126 4
    rw [World.size_alloc, sB, ← hE] at this
    exact owns_below this (below_drewN (Below.refl _ _) 1) (Nat.le_refl _)
  have o3 : (W3.alloc E).drew.ownsRow B 126 4 (.slice (some ⟨B, 0, none⟩) 0 0) 0 [] := by
    have := owns_lit W3 B (by omega) 126 4
    rw [sB, ← hE] at this
    exact owns_below this (below_drewN (Below.refl _ _) 1) (Nat.le_refl _)
  have o2 : ((W3.alloc E).alloc A).drew.ownsRow B 126 4 (.slice (some ⟨B, 0, none⟩) 0 0) 0 [] := by
    have := owns_lit W3 B (by omega) 126 4
    rw [sB, ← hE] at this
    exact owns_below (owns_below this ((Below.refl _ _).alloc (Nat.le_refl _) A) (Nat.le_refl _)) (below_drewN (Below.refl _ _) 1) (Nat.le_refl _)
  have r1 : Row ((W3.alloc A).alloc E).drew B 31 #[.slice none 0 0, .int .i64 0] := by rw [hA]; exact ((Row.new' 31 _ sB.symm).alloc E).drew
  have r2 : Row ((W3.alloc E).alloc A).drew (B + 1) 31 #[.slice none 0 0, .int .i64 0] := by rw [hA]; exact (Row.new' (w := W3.alloc E) 31 _ (by simp <;> omega)).drew
  have hLB : ∀ X, Below B W3 X → Ls 4 flc X a F := fun X hX => (HL.out.below hX (by omega)).ls
  have hkeep : ∀ X, Below B W3 X → X.cell? ⟨g, 0, none⟩ = some (.slice a n c) ∧ X.cell? ⟨g, 1, none⟩ = some (.int .i64 nx) := fun X hX => ⟨(hX.cell (p := ⟨g, 0, none⟩) (by show g < B; omega)).trans s0, (hX.cell (p := ⟨g, 1, none⟩) (by show g < B; omega)).trans s1⟩
  have HLB := Lib.hid hLB
  have HKEEP := Lib.hid hkeep
  have O1 := Lib.hid o1
  have O2 := Lib.hid o2
  have O3 := Lib.hid o3
  have RR1 := Lib.hid r1
  have RR2 := Lib.hid r2
  have B1 := Lib.hid bX1
  have B2 := Lib.hid bX2
  have B3 := Lib.hid bX3
  have SB := Lib.hid sB
  have HBB := Lib.hid hB
  clear bX1 bX2 bX3 o1 o2 o3 r1 r2 hLB hkeep hB
  subst hA hE
  have ne1 : ¬ g = B := by have := HBB.out; omega
  have ne2 : ¬ g = B + 1 := by have := HBB.out; omega
  have ne3 : ¬ B = g := by omega
  have ne4 : ¬ B + 1 = g := by omega
  go_region_held3 (fun wx => wx.cell? ⟨g, 0, none⟩ = some (.slice a n c) ∧ wx.cell? ⟨g, 1, none⟩ = some (.int .i64 nx)) (go_keep) (first | (refine step_pushL rfl (.tmp 12) (.tmp 14) 29 126 rfl _ 40 Try.underlying29 Try.info126 rfl (by decide) (by decide) length_flc one_fls B (.slice (some ⟨B, 0, none⟩) 0 0) 0 [] rfl O3.out (by have := SB.out; simp <;> omega) a n c F rfl HN.out (HLB.out _ B3.out) (by omega) (fun v' w' hv' hg hl => ?_); have BW := Below.grown B3.out hg (by have := SB.out; simp <;> omega) (fun k hk => by have h2 : B = k := Option.some.inj hk; omega); have kk := HKEEP.out w' BW; rw [Nat.zero_add, List.nil_append] at hv'; obtain ⟨p, cp, ev⟩ := owns_form hv'; subst ev; have HV := Lib.hid hv'; have HBW := Lib.hid BW; have HG := Lib.hid hg; have HLL := Lib.hid hl; clear hv' BW hg hl) | (refine step_pushL rfl (.tmp 12) (.tmp 14) 29 126 rfl _ 40 Try.underlying29 Try.info126 rfl (by decide) (by decide) length_flc one_fls B (.slice (some ⟨B, 0, none⟩) 0 0) 0 [] rfl O2.out (by have := SB.out; simp <;> omega) a n c F rfl HN.out (HLB.out _ B2.out) (by omega) (fun v' w' hv' hg hl => ?_); have BW := Below.grown B2.out hg (by have := SB.out; simp <;> omega) (fun k hk => by have h2 : B = k := Option.some.inj hk; omega); have kk := HKEEP.out w' BW; rw [Nat.zero_add, List.nil_append] at hv'; have cf := copy_facts B2.out (by have := SB.out; simp <;> omega) RR2.out (show B ≠ B + 1 by omega) (by omega) hg hl; have c0 : w'.cell? ⟨B + 1, 0, none⟩ = some (.slice none 0 0) := cf.2.1.cell 0; have c1 : w'.cell? ⟨B + 1, 1, none⟩ = some (.int .i64 0) := cf.2.1.cell 1; have c2 := cf.2.1.frozen 0; have c3 := cf.2.1.frozen 1; have CF := Lib.hid cf; clear cf; obtain ⟨p, cp, ev⟩ := owns_form hv'; subst ev; have HV := Lib.hid hv'; have HBW := Lib.hid BW; have HG := Lib.hid hg; have HLL := Lib.hid hl; clear hv' BW hg hl) | (refine step_pushL rfl (.tmp 12) (.tmp 14) 29 126 rfl _ 40 Try.underlying29 Try.info126 rfl (by decide) (by decide) length_flc one_fls B (.slice (some ⟨B + 1, 0, none⟩) 0 0) 0 [] rfl O1.out (by have := SB.out; simp <;> omega) a n c F rfl HN.out (HLB.out _ B1.out) (by omega) (fun v' w' hv' hg hl => ?_); have BW := Below.grown B1.out hg (by have := SB.out; simp <;> omega) (fun k hk => by have h2 : B + 1 = k := Option.some.inj hk; omega); have kk := HKEEP.out w' BW; rw [Nat.zero_add, List.nil_append] at hv'; have cf := copy_facts B1.out (by have := SB.out; simp <;> omega) RR1.out (show B + 1 ≠ B by omega) (by omega) hg hl; have c0 : w'.cell? ⟨B, 0, none⟩ = some (.slice none 0 0) := cf.2.1.cell 0; have c1 : w'.cell? ⟨B, 1, none⟩ = some (.int .i64 0) := cf.2.1.cell 1; have c2 := cf.2.1.frozen 0; have c3 := cf.2.1.frozen 1; have CF := Lib.hid cf; clear cf; obtain ⟨p, cp, ev⟩ := owns_form hv'; subst ev; have HV := Lib.hid hv'; have HBW := Lib.hid BW; have HG := Lib.hid hg; have HLL := Lib.hid hl; clear hv' BW hg hl))
  all_goals
    obtain ⟨gv, W5, egv, eW, hA⟩ : ∃ gv W5, Value.pointer (some ⟨gv, 0, none⟩) = _ ∧ W5 = _ ∧ AccH B W3 gv 31 (mkS (IntKind.i64.wrap (nx + 1))) 126 4 (.slice p n cp) n (F.flatMap flc) W5 := by
      first
        | exact ⟨_, _, rfl, rfl, accH_set HV.out HBW.out CF.out.2.1 CF.out.2.2 (by omega) _⟩
        | exact ⟨_, _, rfl, rfl, accH_new HV.out HBW.out (Nat.le_trans (by have := SB.out; omega) HBW.out.size) _⟩
    rw [← egv, ← eW]
    clear egv eW HV HBW HG HLL kk
    try clear CF c0 c1 c2 c3
    generalize IntKind.i64.wrap (nx + 1) = nx2 at *
    have HA := Lib.hid hA
    have HLEN := Lib.hid (show n ≤ m by rw [HN.out]; exact HF.out)
    have c0 : W5.cell? ⟨gv, 0, none⟩ = some (.slice p n cp) := hA.2.2.1.cell 0
    have R1w := Lib.hid (HS1.out.below hA.2.2.2.2 (by have := HBB.out; omega))
    clear hA
    go_wp2_with (first | ((with_reducible show wpList _ _ _ (Oper.mk _ (Op.load _ _) _ _ _ _ :: _) _ _); refine wpList_load_mid rfl 126 (.tmp 3) rfl (g + 1) 0 rfl [.int .i64 nx, .string f.nm, .int .i64 f.ty, .int .i64 f.pa] _ (by intro j u hu; rw [Nat.zero_add]; exact (R1w.out.cell j).trans (by simpa [flc] using hu)) Try.underlying126 rfl Try.n126 ?_) | ((with_reducible show wpList _ _ _ (Oper.mk _ (Op.call _) _ _ _ _ :: _) _ _); (refine wpList_pushK' rfl (.tmp 18) (.tmp 20) 29 126 rfl _ 4 40 Try.underlying29 Try.info126 rfl (by decide) (by decide) B (.slice p n cp) n (F.flatMap flc) rfl W5 _ (flc (Fl.mk nx f.nm f.sz f.ty f.pa)) rfl (one_fls _) rfl HA.out.1 HA.out.size W5.heap.size rfl rfl (by omega) (fun ge ce w2 hv' hg hl => ?_); obtain ⟨hrow, hAF⟩ := AccH.push HA.out ((Below.refl _ _).alloc (Nat.le_refl _) _) hv' hg (by rcases hl with e | e; exact .inl e.symm; exact .inr (by rw [World.size_alloc, e]; rfl)) 0 rfl; have z3 : w2.cell? ⟨gv, 0, none⟩ = some (.slice p n cp) := hrow.cell 0; have z4 := hrow.frozen 0; have HAF := Lib.hid hAF; clear hAF hrow hv' hg hl)) | ((with_reducible show wpList _ _ _ (Oper.mk _ (Op.load _ _) _ _ _ _ :: _) _ _); refine wpList_load_mid rfl 31 (.tmp 5) rfl gv 0 rfl [.slice (some ⟨ge, 0, none⟩) (n + 1) ce, .int .i64 nx2] _ (by intro j u hu; rw [Nat.zero_add]; exact (HAF.out.2.2.1.cell j).trans (by simpa [mkS] using hu)) Try.underlying31 rfl Try.n31 ?_) | ((with_reducible show wpList _ _ _ (Oper.mk _ (Op.store _ _ _) _ _ _ _ :: _) _ _); refine wpList_put_arr rfl 31 (.tmp 4) (.tmp 23) rfl rfl (g + 1 + 1) 31 _ #[.slice (some ⟨ge, 0, none⟩) (n + 1) ce, .int .i64 nx2] rfl rfl (HS2.out.below HAF.out.2.2.2.2 (by have := HBB.out; omega)) Try.n31 rfl (one_sch _ _ _ _) ?_))
    try simp only [Exit.inBlock, Exit.then]
    refine bodyPost_ret (results_cell_row (p := 4) (ty := 31) rfl _ _ (g + 1 + 1) 31 #[.slice (some ⟨ge, 0, none⟩) (n + 1) ce, .int .i64 nx2] (0, 0) _ rfl (Row.setRow (HS2.out.below HAF.out.2.2.2.2 (by have := HBB.out; omega)) _) Try.underlying31 rfl Try.n31) rfl ?_
    have HAF2 := HAF.out
    have hn' := HN.out
    subst hn'
    have ho := owns_snoc HAF2.1 rfl
    obtain ⟨ax, cx, ev, hls⟩ := lf_put ho (show g + 1 + 1 < B by have := HBB.out; omega) #[.slice (some ⟨ge, 0, none⟩) (F.length + 1) ce, .int .i64 nx2]
    refine ⟨⟨_, rfl, ax, _, cx, nx2, by rw [← ev], ?_, hls⟩, below_putRow (HB.out.trans (HAF2.2.2.2.2.mono ?_)) ?_ _⟩
    · have := HLEN.out; rw [List.length_append, List.length_singleton]; omega
    · have := EG.out; have := HBB.out; omega
    · have := EG.out; omega
end Go.Proofs.Ytkonoojmhjinpaa
