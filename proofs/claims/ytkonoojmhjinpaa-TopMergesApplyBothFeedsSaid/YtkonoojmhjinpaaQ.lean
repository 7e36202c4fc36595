/- Contracts: Change. -/
import Derived.Test.YtkonoojmhjinpaaR0
set_option linter.all false
namespace Go.Proofs.Ytkonoojmhjinpaa
open Go.RowKit Go.Fen
set_option linter.unusedVariables false
set_option maxHeartbeats 4000000

theorem wpOp_plain {P : Program} {ops : Array Oper} {Q : Exit → Act → World → Prop} {i : Nat} {K : Act → World → Prop} {a : Act} {w : World} {o : Oper} (hi : ops[i]? = some o) (hg : o.guard = none) (h : o.wp P a w K Q) : wpOp P ops Q i K a w := by
  unfold wpOp
  simp only [hi]
  have hw : Region.wanted o (yielded ops a.tmps) = true := by simp [Region.wanted, hg]
  rw [if_pos hw]
  exact .inl h
theorem wp_put_row {P : Program} {Q : Exit → Act → World → Prop} {K : Act → World → Prop} {a : Act} {w : World} {o : Oper} (ty : TypeId) (p x : Operand) (ho : o.op = .store ty p x) (hd : o.dst = none) (g : Nat) (t : TypeId) (old cs : Array Value)
    (hp : a.eval p = .pointer (some ⟨g, 0, none⟩)) (hx : a.eval x = .agg cs) (hr : Row w g t old) (hs : (P.info? ty).map (·.size) = some cs.size) (hzs : old.size = cs.size) (hone : cs.all (·.oneCell') = true)
    (h : K a (w.setRow g cs)) : o.wp P a w K Q := by
  unfold Oper.wp execOp
  simp only [ho, hp, hx, Sem.run_bind, Instr.storeAt, Instr.sureAddr, Sem.run_pure, Result.andThen_ok, run_storeVar_row w g t ty old cs hr hs hzs hone]
  show K (a.put o.dst undef) _
  rw [hd]
  exact h
theorem wp_alloc_row {P : Program} {Q : Exit → Act → World → Prop} {K : Act → World → Prop} {a : Act} {w : World} {o : Oper} (ty : TypeId) (ho : o.op = .alloc ty) (z : Array Value) (hz : (P.info? ty).bind (·.zero) = some (.agg z))
    (h : K (a.put o.dst (.pointer (some ⟨w.heap.size, 0, none⟩))) (w.alloc (.cells z ty))) : o.wp P a w K Q := by
  cases hi : P.info? ty with
  | none => simp [hi] at hz
  | some i =>
    have hz' : i.zero = some (.agg z) := by simpa [hi] using hz
    unfold Oper.wp execOp
    simp only [ho, Sem.run_bind]
    have hal : (Instr.alloc ty true (.tuple #[])).run P w = .ok (.pointer (some ⟨w.heap.size, 0, none⟩)) (w.alloc (.cells z ty)) := by
      simp [Instr.alloc, zeroValue, typeInfo, hi, hz', newVar, newRow, newObj, Value.cells]
      rfl
    rw [hal]
    exact h
/-- what each operation of Change's first statement leaves -/
def chG (B g : Nat) (ch : Ch) (nx : Int) (x : World) : Nat → Value → Prop
  | 0, v => v = .pointer (some ⟨g + 1, 0, none⟩)
  | 1, v => v = .int .i64 ch.k
  | 2, v => ∃ z : Int, v = .int .i64 z
  | 3, v => ∃ z : Int, v = .int .i64 z
  | 4, v => v = .pointer (some ⟨g + 1, 1, none⟩)
  | 5, v => v = .int .i64 ch.id
  | 6, v => v = .pointer (some ⟨g, 1, none⟩)
  | 7, v => v = .int .i64 nx
  | 8, v => ∃ z : Int, v = .int .i64 z
  | 9, v => ∃ z : Int, v = .int .i64 z
  | 10, v => v = .pointer (some ⟨g + 1, 2, none⟩)
  | 11, v => v = .int .i64 ch.wi
  | 12, v => v = .pointer (some ⟨g, 1, none⟩)
  | 13, v => v = .int .i64 nx
  | 14, v => ∃ z : Int, v = .int .i64 z
  | 15, v => ∃ z : Int, v = .int .i64 z
  | 16, v => v = .pointer (some ⟨g + 1, 3, none⟩)
  | 17, v => v = .string ch.nm
  | 18, v => ∃ s : ByteArray, s.size ≤ 9223372036854775807 ∧ v = .string s
  | 19, v => v = .pointer (some ⟨g + 1, 4, none⟩)
  | 20, v => v = .string ch.ot
  | 21, v => ∃ s : ByteArray, s.size ≤ 9223372036854775807 ∧ v = .string s
  | 22, v => v = .pointer (some ⟨g + 1, 5, none⟩)
  | 23, v => v = .int .i64 ch.ty
  | 24, v => ∃ z : Int, v = .int .i64 z
  | 25, v => ∃ z : Int, v = .int .i64 z
  | 26, v => v = .pointer (some ⟨g + 1, 6, none⟩)
  | 27, v => v = .int .i64 ch.pa
  | 28, v => v = .pointer (some ⟨g, 1, none⟩)
  | 29, v => v = .int .i64 nx
  | 30, v => ∃ z : Int, v = .int .i64 z
  | 31, v => v = .pointer (some ⟨g + 1, 7, none⟩)
  | 32, v => v = .string ch.sp
  | 33, v => ∃ c : Ch, v = .agg (chc c).toArray
  | 34, v => ∃ (b : Nat) (c : Ch), v = .pointer (some ⟨b, 0, none⟩) ∧ B ≤ b ∧ Row x b 76 (chc c).toArray
  | _, _ => True
theorem chG_mono {B g : Nat} {ch : Ch} {nx : Int} {x x' : World} (h : Below x.heap.size x x') : ∀ j v, chG B g ch nx x j v → chG B g ch nx x' j v := by
  intro j v hv
  by_cases e : j = 34
  · subst e
    obtain ⟨b, c, h1, h2, h3⟩ := hv
    exact ⟨b, c, h1, h2, h3.below h h3.lt⟩
  · unfold chG at hv ⊢
    split at hv <;> first | exact hv | (exfalso; exact e rfl) | trivial
def chA (t0 t1 : Value) (g : Nat) (vals : Nat → Value) : Act := { tmps := #[t0, t1, .pointer (some ⟨g, 0, none⟩), .pointer (some ⟨g + 1, 0, none⟩), .pointer (some ⟨g + 1 + 1, 0, none⟩), vals 34, vals 0, vals 1, vals 2, vals 3, vals 4, vals 5, vals 6, vals 7, vals 8, vals 9, vals 10, vals 11, vals 12, vals 13, vals 14, vals 15, vals 16, vals 17, vals 18, vals 19, vals 20, vals 21, vals 22, vals 23, vals 24, vals 25, vals 26, vals 27, vals 28, vals 29, vals 30, vals 31, vals 32, vals 33, undef, undef, undef, undef, undef, undef, undef, undef, undef, undef, undef, undef], defers := [] }
theorem chG_upd {B g : Nat} {ch : Ch} {nx : Int} {x x' : World} {l : Nat → Bool} {vals : Nat → Value} {i : Nat} {v : Value} (h : ∀ j, l j = true → chG B g ch nx x j (vals j)) (hx : Below x.heap.size x x') (hv : chG B g ch nx x' i v) :
    ∀ j, (if j = i then true else l j) = true → chG B g ch nx x' j (if j = i then v else vals j) := by
  intro j hj
  by_cases e : j = i
  · subst e; rw [if_pos rfl]; exact hv
  · rw [if_neg e] at hj ⊢
    exact chG_mono hx _ _ (h j hj)
theorem back {vals f : Nat → Value} {d : Nat} {c : Value} (hf : f = vals) (e : vals d = c) : (fun j => if j = d then c else f j) = vals := by
  subst hf
  funext j
  by_cases h : j = d
  · subst h; rw [if_pos rfl, e]
  · rw [if_neg h]
theorem zch : (#[.int .i64 0, .int .i64 0, .int .i64 0, .string ⟨#[]⟩, .string ⟨#[]⟩, .int .i64 0, .int .i64 0, .string ⟨#[]⟩] : Array Value) = (chc (Ch.mk 0 0 0 ⟨#[]⟩ ⟨#[]⟩ 0 0 ⟨#[]⟩ (by decide) (by decide))).toArray := rfl

set_option maxRecDepth 20000 in
theorem change_any (m : Nat) (v : Value) (ch : Ch) (w : World) (hm : m ≤ 996) (hS : Sch m w v) : Calls Try.prog 18 #[v, .agg (chc ch).toArray] w fun e w' => (∃ c : Ch, e = .returned (.agg (chc c).toArray)) ∧ Below w.heap.size w w' := by
  have HS := Lib.hid hS
  obtain ⟨a, F, c, nx, rfl, _⟩ := hS
  obtain ⟨n, hn⟩ : ∃ n, n = F.length := ⟨_, rfl⟩
  rw [← hn] at HS ⊢
  obtain ⟨g, eg⟩ : ∃ g, g = w.heap.size := ⟨_, rfl⟩
  obtain ⟨W0, hW0⟩ : ∃ W, W = w.alloc (.cells #[.slice a n c, .int .i64 nx] 31) := ⟨_, rfl⟩
  obtain ⟨W1, hW1⟩ : ∃ W, W = W0.alloc (.cells (chc ch).toArray 76) := ⟨_, rfl⟩
  obtain ⟨W2, hW2⟩ : ∃ W, W = W1.alloc (.cells (chc (Ch.mk 0 0 0 ⟨#[]⟩ ⟨#[]⟩ 0 0 ⟨#[]⟩ (by decide) (by decide))).toArray 76) := ⟨_, rfl⟩
  have z0 : W0.heap.size = g + 1 := by rw [hW0, eg]; simp
  have z1 : W1.heap.size = g + 1 + 1 := by rw [hW1, World.size_alloc, z0]
  have z2 : W2.heap.size = g + 1 + 1 + 1 := by rw [hW2, World.size_alloc, z1]
  have hb2 : Below w.heap.size w W2 := by rw [hW2, hW1, hW0]; exact (((Below.refl _ _).alloc (Nat.le_refl _) _).alloc (by simp) _).alloc (by simp <;> omega) _
  have R0 : Row W2 g 31 #[.slice a n c, .int .i64 nx] := by rw [hW2, hW1, hW0, eg]; exact ((Row.new w 31 _).alloc _).alloc _
  have R1 : Row W2 (g + 1) 76 (chc ch).toArray := by rw [hW2, hW1]; exact ((Row.new' 76 _ z0.symm).alloc _)
  have R2 : Row W2 (g + 1 + 1) 76 (chc (Ch.mk 0 0 0 ⟨#[]⟩ ⟨#[]⟩ 0 0 ⟨#[]⟩ (by decide) (by decide))).toArray := by rw [hW2]; exact (Row.new' 76 _ z1.symm)
  have HW0 := Lib.hid hW0
  have HW1 := Lib.hid hW1
  have HW2 := Lib.hid hW2
  have EG := Lib.hid eg
  have Z0 := Lib.hid z0
  have Z1 := Lib.hid z1
  have Z2 := Lib.hid z2
  have HN := Lib.hid hn
  have HRR1 := Lib.hid R1
  have HRR0 := Lib.hid R0
  have HRR2 := Lib.hid R2
  have HBW := Lib.hid hb2
  have HR0 := Lib.hid (fun X (h : Below W2.heap.size W2 X) => R0.below h R0.lt)
  have HR1 := Lib.hid (fun X (h : Below W2.heap.size W2 X) => R1.below h R1.lt)
  have HR2 := Lib.hid (fun X (h : Below W2.heap.size W2 X) => R2.below h R2.lt)
  have HSX := Lib.hid (fun X (h : Below W2.heap.size W2 X) => (HS.out.bel hb2).bel h)
  have HEND := Lib.hid (fun X cs (h : Below W2.heap.size W2 X) => below_putRow (bel_tr hb2 h) (show w.heap.size ≤ g + 1 + 1 by omega) cs)
  have HB := Lib.hid (Below.refl W2.heap.size W2)
  clear hW0 hW1 hW2 eg z0 z1 z2 hb2 R0 R1 R2 hn
  go_enter Try.func18, Try.ntmps18
  go_upto_region 1 with (first | ((with_reducible show wpList _ _ _ (Oper.mk _ (Op.box _ _) _ _ _ _ :: _) _ _); (first | (refine wpList_box_row rfl 31 (.tmp 0) rfl _ rfl g EG.out ?_; refine wpList_atE HW0.out ?_) | (refine wpList_box_row rfl 76 (.tmp 1) rfl _ rfl (g + 1) Z0.out.symm ?_; refine wpList_atE HW1.out ?_))) | ((with_reducible show wpList _ _ _ (Oper.mk _ (Op.alloc _) _ _ _ _ :: _) _ _); (refine wpList_alloc_row rfl 76 rfl _ Try.z76 (g + 1 + 1) Z1.out.symm ?_; refine wpList_atE HW2.out ?_)))
  refine wp_region_rely rfl (by kernel_rfl) (fun l b x => ∃ vals : Nat → Value, b = chA (.agg #[.slice a n c, .int .i64 nx]) (.agg (chc ch).toArray) g vals ∧ Below W2.heap.size W2 x ∧ ∀ j, l j = true → chG W2.heap.size g ch nx x j (vals j)) ?_ ?_ ?_
  · exact ⟨fun _ => undef, rfl, below_drewN (Below.refl _ _) 1, fun j hj => by cases hj⟩
  · rintro l b x i o ho ⟨vals, rfl, hb, hg⟩ hdep K hK
    have hi : i < 36 := (Array.getElem?_eq_some_iff.1 ho).1
    match i, hi, ho, hK with
    | 0, _, ho, hK =>
      obtain rfl := Option.some.inj ho
      refine wpOp_plain rfl rfl ?_
      simp only [chA]
      go_simp
      exact hK _ _ ⟨fun j => if j = 0 then _ else vals j, rfl, hb, chG_upd hg (Below.refl _ _) rfl⟩
    | 1, _, ho, hK =>
      obtain rfl := Option.some.inj ho
      refine wpOp_plain rfl rfl ?_
      have l0 : l 0 = true := hdep ⟨0, .data⟩ (by simp) rfl
      have e0 := hg 0 l0
      replace e0 : vals 0 = _ := e0
      have qq : x.cell? ⟨g + 1, 0, none⟩ = some (.int .i64 ch.k) := (HR1.out _ hb).cell 0
      simp only [chA, e0]
      go_simp
      exact hK _ _ ⟨fun j => if j = 1 then _ else vals j, congrArg (fun vs : Nat → Value => chA (.agg #[.slice a n c, .int .i64 nx]) (.agg (chc ch).toArray) g (fun j => if j = 1 then _ else vs j)) (back rfl e0), hb, chG_upd hg (Below.refl _ _) rfl⟩
    | 2, _, ho, hK =>
      obtain rfl := Option.some.inj ho
      refine wpOp_plain rfl rfl ?_
      have l1 : l 1 = true := hdep ⟨1, .data⟩ (by simp) rfl
      have e1 := hg 1 l1
      replace e1 : vals 1 = _ := e1
      simp only [chA, e1]
      go_simp
      go_at_call 44
      refine (mod_any _ _ _).mono ?_
      rintro e x2 ⟨⟨z, rfl⟩, hw⟩
      rw [hw]
      try simp only [Act.put]
      exact hK _ _ ⟨fun j => if j = 2 then _ else vals j, congrArg (fun vs : Nat → Value => chA (.agg #[.slice a n c, .int .i64 nx]) (.agg (chc ch).toArray) g (fun j => if j = 2 then _ else vs j)) (back rfl e1), hb, chG_upd hg (Below.refl _ _) ⟨z, rfl⟩⟩
    | 3, _, ho, hK =>
      obtain rfl := Option.some.inj ho
      refine wpOp_plain rfl rfl ?_
      have l2 : l 2 = true := hdep ⟨2, .data⟩ (by simp) rfl
      have e2 := hg 2 l2
      obtain ⟨z2, e2⟩ := e2
      replace e2 : vals 2 = _ := e2
      simp only [chA, e2]
      go_simp
      exact hK _ _ ⟨fun j => if j = 3 then _ else vals j, congrArg (fun vs : Nat → Value => chA (.agg #[.slice a n c, .int .i64 nx]) (.agg (chc ch).toArray) g (fun j => if j = 3 then _ else vs j)) (back rfl e2), hb, chG_upd hg (Below.refl _ _) ⟨_, rfl⟩⟩
    | 4, _, ho, hK =>
      obtain rfl := Option.some.inj ho
      refine wpOp_plain rfl rfl ?_
      simp only [chA]
      go_simp
      exact hK _ _ ⟨fun j => if j = 4 then _ else vals j, rfl, hb, chG_upd hg (Below.refl _ _) rfl⟩
    | 5, _, ho, hK =>
      obtain rfl := Option.some.inj ho
      refine wpOp_plain rfl rfl ?_
      have l4 : l 4 = true := hdep ⟨4, .data⟩ (by simp) rfl
      have e4 := hg 4 l4
      replace e4 : vals 4 = _ := e4
      have qq : x.cell? ⟨g + 1, 1, none⟩ = some (.int .i64 ch.id) := (HR1.out _ hb).cell 1
      simp only [chA, e4]
      go_simp
      exact hK _ _ ⟨fun j => if j = 5 then _ else vals j, congrArg (fun vs : Nat → Value => chA (.agg #[.slice a n c, .int .i64 nx]) (.agg (chc ch).toArray) g (fun j => if j = 5 then _ else vs j)) (back rfl e4), hb, chG_upd hg (Below.refl _ _) rfl⟩
    | 6, _, ho, hK =>
      obtain rfl := Option.some.inj ho
      refine wpOp_plain rfl rfl ?_
      simp only [chA]
      go_simp
      exact hK _ _ ⟨fun j => if j = 6 then _ else vals j, rfl, hb, chG_upd hg (Below.refl _ _) rfl⟩
    | 7, _, ho, hK =>
      obtain rfl := Option.some.inj ho
      refine wpOp_plain rfl rfl ?_
      have l6 : l 6 = true := hdep ⟨6, .data⟩ (by simp) rfl
      have e6 := hg 6 l6
      replace e6 : vals 6 = _ := e6
      have qq : x.cell? ⟨g, 1, none⟩ = some (.int .i64 nx) := (HR0.out _ hb).cell 1
      simp only [chA, e6]
      go_simp
      exact hK _ _ ⟨fun j => if j = 7 then _ else vals j, congrArg (fun vs : Nat → Value => chA (.agg #[.slice a n c, .int .i64 nx]) (.agg (chc ch).toArray) g (fun j => if j = 7 then _ else vs j)) (back rfl e6), hb, chG_upd hg (Below.refl _ _) rfl⟩
    | 8, _, ho, hK =>
      obtain rfl := Option.some.inj ho
      refine wpOp_plain rfl rfl ?_
      have l5 : l 5 = true := hdep ⟨5, .data⟩ (by simp) rfl
      have e5 := hg 5 l5
      have l7 : l 7 = true := hdep ⟨7, .data⟩ (by simp) rfl
      have e7 := hg 7 l7
      replace e5 : vals 5 = _ := e5
      replace e7 : vals 7 = _ := e7
      simp only [chA, e5, e7]
      go_simp
      go_at_call 44
      refine (mod_any _ _ _).mono ?_
      rintro e x2 ⟨⟨z, rfl⟩, hw⟩
      rw [hw]
      try simp only [Act.put]
      exact hK _ _ ⟨fun j => if j = 8 then _ else vals j, congrArg (fun vs : Nat → Value => chA (.agg #[.slice a n c, .int .i64 nx]) (.agg (chc ch).toArray) g (fun j => if j = 8 then _ else vs j)) (back (back rfl e5) e7), hb, chG_upd hg (Below.refl _ _) ⟨z, rfl⟩⟩
    | 9, _, ho, hK =>
      obtain rfl := Option.some.inj ho
      refine wpOp_plain rfl rfl ?_
      have l8 : l 8 = true := hdep ⟨8, .data⟩ (by simp) rfl
      have e8 := hg 8 l8
      obtain ⟨z8, e8⟩ := e8
      replace e8 : vals 8 = _ := e8
      simp only [chA, e8]
      go_simp
      exact hK _ _ ⟨fun j => if j = 9 then _ else vals j, congrArg (fun vs : Nat → Value => chA (.agg #[.slice a n c, .int .i64 nx]) (.agg (chc ch).toArray) g (fun j => if j = 9 then _ else vs j)) (back rfl e8), hb, chG_upd hg (Below.refl _ _) ⟨_, rfl⟩⟩
    | 10, _, ho, hK =>
      obtain rfl := Option.some.inj ho
      refine wpOp_plain rfl rfl ?_
      simp only [chA]
      go_simp
      exact hK _ _ ⟨fun j => if j = 10 then _ else vals j, rfl, hb, chG_upd hg (Below.refl _ _) rfl⟩
    | 11, _, ho, hK =>
      obtain rfl := Option.some.inj ho
      refine wpOp_plain rfl rfl ?_
      have l10 : l 10 = true := hdep ⟨10, .data⟩ (by simp) rfl
      have e10 := hg 10 l10
      replace e10 : vals 10 = _ := e10
      have qq : x.cell? ⟨g + 1, 2, none⟩ = some (.int .i64 ch.wi) := (HR1.out _ hb).cell 2
      simp only [chA, e10]
      go_simp
      exact hK _ _ ⟨fun j => if j = 11 then _ else vals j, congrArg (fun vs : Nat → Value => chA (.agg #[.slice a n c, .int .i64 nx]) (.agg (chc ch).toArray) g (fun j => if j = 11 then _ else vs j)) (back rfl e10), hb, chG_upd hg (Below.refl _ _) rfl⟩
    | 12, _, ho, hK =>
      obtain rfl := Option.some.inj ho
      refine wpOp_plain rfl rfl ?_
      simp only [chA]
      go_simp
      exact hK _ _ ⟨fun j => if j = 12 then _ else vals j, rfl, hb, chG_upd hg (Below.refl _ _) rfl⟩
    | 13, _, ho, hK =>
      obtain rfl := Option.some.inj ho
      refine wpOp_plain rfl rfl ?_
      have l12 : l 12 = true := hdep ⟨12, .data⟩ (by simp) rfl
      have e12 := hg 12 l12
      replace e12 : vals 12 = _ := e12
      have qq : x.cell? ⟨g, 1, none⟩ = some (.int .i64 nx) := (HR0.out _ hb).cell 1
      simp only [chA, e12]
      go_simp
      exact hK _ _ ⟨fun j => if j = 13 then _ else vals j, congrArg (fun vs : Nat → Value => chA (.agg #[.slice a n c, .int .i64 nx]) (.agg (chc ch).toArray) g (fun j => if j = 13 then _ else vs j)) (back rfl e12), hb, chG_upd hg (Below.refl _ _) rfl⟩
    | 14, _, ho, hK =>
      obtain rfl := Option.some.inj ho
      refine wpOp_plain rfl rfl ?_
      have l11 : l 11 = true := hdep ⟨11, .data⟩ (by simp) rfl
      have e11 := hg 11 l11
      have l13 : l 13 = true := hdep ⟨13, .data⟩ (by simp) rfl
      have e13 := hg 13 l13
      replace e11 : vals 11 = _ := e11
      replace e13 : vals 13 = _ := e13
      simp only [chA, e11, e13]
      go_simp
      go_at_call 44
      refine (mod_any _ _ _).mono ?_
      rintro e x2 ⟨⟨z, rfl⟩, hw⟩
      rw [hw]
      try simp only [Act.put]
      exact hK _ _ ⟨fun j => if j = 14 then _ else vals j, congrArg (fun vs : Nat → Value => chA (.agg #[.slice a n c, .int .i64 nx]) (.agg (chc ch).toArray) g (fun j => if j = 14 then _ else vs j)) (back (back rfl e11) e13), hb, chG_upd hg (Below.refl _ _) ⟨z, rfl⟩⟩
    | 15, _, ho, hK =>
      obtain rfl := Option.some.inj ho
      refine wpOp_plain rfl rfl ?_
      have l14 : l 14 = true := hdep ⟨14, .data⟩ (by simp) rfl
      have e14 := hg 14 l14
      obtain ⟨z14, e14⟩ := e14
      replace e14 : vals 14 = _ := e14
      simp only [chA, e14]
      go_simp
      exact hK _ _ ⟨fun j => if j = 15 then _ else vals j, congrArg (fun vs : Nat → Value => chA (.agg #[.slice a n c, .int .i64 nx]) (.agg (chc ch).toArray) g (fun j => if j = 15 then _ else vs j)) (back rfl e14), hb, chG_upd hg (Below.refl _ _) ⟨_, rfl⟩⟩
    | 16, _, ho, hK =>
      obtain rfl := Option.some.inj ho
      refine wpOp_plain rfl rfl ?_
      simp only [chA]
      go_simp
      exact hK _ _ ⟨fun j => if j = 16 then _ else vals j, rfl, hb, chG_upd hg (Below.refl _ _) rfl⟩
    | 17, _, ho, hK =>
      obtain rfl := Option.some.inj ho
      refine wpOp_plain rfl rfl ?_
      have l16 : l 16 = true := hdep ⟨16, .data⟩ (by simp) rfl
      have e16 := hg 16 l16
      replace e16 : vals 16 = _ := e16
      have qq : x.cell? ⟨g + 1, 3, none⟩ = some (.string ch.nm) := (HR1.out _ hb).cell 3
      simp only [chA, e16]
      go_simp
      exact hK _ _ ⟨fun j => if j = 17 then _ else vals j, congrArg (fun vs : Nat → Value => chA (.agg #[.slice a n c, .int .i64 nx]) (.agg (chc ch).toArray) g (fun j => if j = 17 then _ else vs j)) (back rfl e16), hb, chG_upd hg (Below.refl _ _) rfl⟩
    | 18, _, ho, hK =>
      obtain rfl := Option.some.inj ho
      refine wpOp_plain rfl rfl ?_
      have l17 : l 17 = true := hdep ⟨17, .data⟩ (by simp) rfl
      have e17 := hg 17 l17
      replace e17 : vals 17 = _ := e17
      simp only [chA, e17]
      go_simp
      go_at_call 45
      refine (name_any ch.nm _ (by have := ch.hn; omega)).mono ?_
      rintro e x2 ⟨⟨z, hz, rfl⟩, bx⟩
      exact hK _ _ ⟨fun j => if j = 18 then _ else vals j, congrArg (fun vs : Nat → Value => chA (.agg #[.slice a n c, .int .i64 nx]) (.agg (chc ch).toArray) g (fun j => if j = 18 then _ else vs j)) (back rfl e17), (bel_tr hb bx), chG_upd hg bx ⟨z, hz, rfl⟩⟩
    | 19, _, ho, hK =>
      obtain rfl := Option.some.inj ho
      refine wpOp_plain rfl rfl ?_
      simp only [chA]
      go_simp
      exact hK _ _ ⟨fun j => if j = 19 then _ else vals j, rfl, hb, chG_upd hg (Below.refl _ _) rfl⟩
    | 20, _, ho, hK =>
      obtain rfl := Option.some.inj ho
      refine wpOp_plain rfl rfl ?_
      have l19 : l 19 = true := hdep ⟨19, .data⟩ (by simp) rfl
      have e19 := hg 19 l19
      replace e19 : vals 19 = _ := e19
      have qq : x.cell? ⟨g + 1, 4, none⟩ = some (.string ch.ot) := (HR1.out _ hb).cell 4
      simp only [chA, e19]
      go_simp
      exact hK _ _ ⟨fun j => if j = 20 then _ else vals j, congrArg (fun vs : Nat → Value => chA (.agg #[.slice a n c, .int .i64 nx]) (.agg (chc ch).toArray) g (fun j => if j = 20 then _ else vs j)) (back rfl e19), hb, chG_upd hg (Below.refl _ _) rfl⟩
    | 21, _, ho, hK =>
      obtain rfl := Option.some.inj ho
      refine wpOp_plain rfl rfl ?_
      have l20 : l 20 = true := hdep ⟨20, .data⟩ (by simp) rfl
      have e20 := hg 20 l20
      replace e20 : vals 20 = _ := e20
      simp only [chA, e20]
      go_simp
      go_at_call 45
      refine (name_any ch.ot _ (by have := ch.ho; omega)).mono ?_
      rintro e x2 ⟨⟨z, hz, rfl⟩, bx⟩
      exact hK _ _ ⟨fun j => if j = 21 then _ else vals j, congrArg (fun vs : Nat → Value => chA (.agg #[.slice a n c, .int .i64 nx]) (.agg (chc ch).toArray) g (fun j => if j = 21 then _ else vs j)) (back rfl e20), (bel_tr hb bx), chG_upd hg bx ⟨z, hz, rfl⟩⟩
    | 22, _, ho, hK =>
      obtain rfl := Option.some.inj ho
      refine wpOp_plain rfl rfl ?_
      simp only [chA]
      go_simp
      exact hK _ _ ⟨fun j => if j = 22 then _ else vals j, rfl, hb, chG_upd hg (Below.refl _ _) rfl⟩
    | 23, _, ho, hK =>
      obtain rfl := Option.some.inj ho
      refine wpOp_plain rfl rfl ?_
      have l22 : l 22 = true := hdep ⟨22, .data⟩ (by simp) rfl
      have e22 := hg 22 l22
      replace e22 : vals 22 = _ := e22
      have qq : x.cell? ⟨g + 1, 5, none⟩ = some (.int .i64 ch.ty) := (HR1.out _ hb).cell 5
      simp only [chA, e22]
      go_simp
      exact hK _ _ ⟨fun j => if j = 23 then _ else vals j, congrArg (fun vs : Nat → Value => chA (.agg #[.slice a n c, .int .i64 nx]) (.agg (chc ch).toArray) g (fun j => if j = 23 then _ else vs j)) (back rfl e22), hb, chG_upd hg (Below.refl _ _) rfl⟩
    | 24, _, ho, hK =>
      obtain rfl := Option.some.inj ho
      refine wpOp_plain rfl rfl ?_
      have l23 : l 23 = true := hdep ⟨23, .data⟩ (by simp) rfl
      have e23 := hg 23 l23
      replace e23 : vals 23 = _ := e23
      simp only [chA, e23]
      go_simp
      go_at_call 44
      refine (mod_any _ _ _).mono ?_
      rintro e x2 ⟨⟨z, rfl⟩, hw⟩
      rw [hw]
      try simp only [Act.put]
      exact hK _ _ ⟨fun j => if j = 24 then _ else vals j, congrArg (fun vs : Nat → Value => chA (.agg #[.slice a n c, .int .i64 nx]) (.agg (chc ch).toArray) g (fun j => if j = 24 then _ else vs j)) (back rfl e23), hb, chG_upd hg (Below.refl _ _) ⟨z, rfl⟩⟩
    | 25, _, ho, hK =>
      obtain rfl := Option.some.inj ho
      refine wpOp_plain rfl rfl ?_
      have l24 : l 24 = true := hdep ⟨24, .data⟩ (by simp) rfl
      have e24 := hg 24 l24
      obtain ⟨z24, e24⟩ := e24
      replace e24 : vals 24 = _ := e24
      simp only [chA, e24]
      go_simp
      exact hK _ _ ⟨fun j => if j = 25 then _ else vals j, congrArg (fun vs : Nat → Value => chA (.agg #[.slice a n c, .int .i64 nx]) (.agg (chc ch).toArray) g (fun j => if j = 25 then _ else vs j)) (back rfl e24), hb, chG_upd hg (Below.refl _ _) ⟨_, rfl⟩⟩
    | 26, _, ho, hK =>
      obtain rfl := Option.some.inj ho
      refine wpOp_plain rfl rfl ?_
      simp only [chA]
      go_simp
      exact hK _ _ ⟨fun j => if j = 26 then _ else vals j, rfl, hb, chG_upd hg (Below.refl _ _) rfl⟩
    | 27, _, ho, hK =>
      obtain rfl := Option.some.inj ho
      refine wpOp_plain rfl rfl ?_
      have l26 : l 26 = true := hdep ⟨26, .data⟩ (by simp) rfl
      have e26 := hg 26 l26
      replace e26 : vals 26 = _ := e26
      have qq : x.cell? ⟨g + 1, 6, none⟩ = some (.int .i64 ch.pa) := (HR1.out _ hb).cell 6
      simp only [chA, e26]
      go_simp
      exact hK _ _ ⟨fun j => if j = 27 then _ else vals j, congrArg (fun vs : Nat → Value => chA (.agg #[.slice a n c, .int .i64 nx]) (.agg (chc ch).toArray) g (fun j => if j = 27 then _ else vs j)) (back rfl e26), hb, chG_upd hg (Below.refl _ _) rfl⟩
    | 28, _, ho, hK =>
      obtain rfl := Option.some.inj ho
      refine wpOp_plain rfl rfl ?_
      simp only [chA]
      go_simp
      exact hK _ _ ⟨fun j => if j = 28 then _ else vals j, rfl, hb, chG_upd hg (Below.refl _ _) rfl⟩
    | 29, _, ho, hK =>
      obtain rfl := Option.some.inj ho
      refine wpOp_plain rfl rfl ?_
      have l28 : l 28 = true := hdep ⟨28, .data⟩ (by simp) rfl
      have e28 := hg 28 l28
      replace e28 : vals 28 = _ := e28
      have qq : x.cell? ⟨g, 1, none⟩ = some (.int .i64 nx) := (HR0.out _ hb).cell 1
      simp only [chA, e28]
      go_simp
      exact hK _ _ ⟨fun j => if j = 29 then _ else vals j, congrArg (fun vs : Nat → Value => chA (.agg #[.slice a n c, .int .i64 nx]) (.agg (chc ch).toArray) g (fun j => if j = 29 then _ else vs j)) (back rfl e28), hb, chG_upd hg (Below.refl _ _) rfl⟩
    | 30, _, ho, hK =>
      obtain rfl := Option.some.inj ho
      refine wpOp_plain rfl rfl ?_
      have l27 : l 27 = true := hdep ⟨27, .data⟩ (by simp) rfl
      have e27 := hg 27 l27
      have l29 : l 29 = true := hdep ⟨29, .data⟩ (by simp) rfl
      have e29 := hg 29 l29
      replace e27 : vals 27 = _ := e27
      replace e29 : vals 29 = _ := e29
      simp only [chA, e27, e29]
      go_simp
      go_at_call 44
      refine (mod_any _ _ _).mono ?_
      rintro e x2 ⟨⟨z, rfl⟩, hw⟩
      rw [hw]
      try simp only [Act.put]
      exact hK _ _ ⟨fun j => if j = 30 then _ else vals j, congrArg (fun vs : Nat → Value => chA (.agg #[.slice a n c, .int .i64 nx]) (.agg (chc ch).toArray) g (fun j => if j = 30 then _ else vs j)) (back (back rfl e27) e29), hb, chG_upd hg (Below.refl _ _) ⟨z, rfl⟩⟩
    | 31, _, ho, hK =>
      obtain rfl := Option.some.inj ho
      refine wpOp_plain rfl rfl ?_
      simp only [chA]
      go_simp
      exact hK _ _ ⟨fun j => if j = 31 then _ else vals j, rfl, hb, chG_upd hg (Below.refl _ _) rfl⟩
    | 32, _, ho, hK =>
      obtain rfl := Option.some.inj ho
      refine wpOp_plain rfl rfl ?_
      have l31 : l 31 = true := hdep ⟨31, .data⟩ (by simp) rfl
      have e31 := hg 31 l31
      replace e31 : vals 31 = _ := e31
      have qq : x.cell? ⟨g + 1, 7, none⟩ = some (.string ch.sp) := (HR1.out _ hb).cell 7
      simp only [chA, e31]
      go_simp
      exact hK _ _ ⟨fun j => if j = 32 then _ else vals j, congrArg (fun vs : Nat → Value => chA (.agg #[.slice a n c, .int .i64 nx]) (.agg (chc ch).toArray) g (fun j => if j = 32 then _ else vs j)) (back rfl e31), hb, chG_upd hg (Below.refl _ _) rfl⟩
    | 33, _, ho, hK =>
      obtain rfl := Option.some.inj ho
      refine wpOp_plain rfl rfl ?_
      have l3 : l 3 = true := hdep ⟨3, .data⟩ (by simp) rfl
      have e3 := hg 3 l3
      have l9 : l 9 = true := hdep ⟨9, .data⟩ (by simp) rfl
      have e9 := hg 9 l9
      have l15 : l 15 = true := hdep ⟨15, .data⟩ (by simp) rfl
      have e15 := hg 15 l15
      have l18 : l 18 = true := hdep ⟨18, .data⟩ (by simp) rfl
      have e18 := hg 18 l18
      have l21 : l 21 = true := hdep ⟨21, .data⟩ (by simp) rfl
      have e21 := hg 21 l21
      have l25 : l 25 = true := hdep ⟨25, .data⟩ (by simp) rfl
      have e25 := hg 25 l25
      have l30 : l 30 = true := hdep ⟨30, .data⟩ (by simp) rfl
      have e30 := hg 30 l30
      have l32 : l 32 = true := hdep ⟨32, .data⟩ (by simp) rfl
      have e32 := hg 32 l32
      obtain ⟨z3, e3⟩ := e3
      replace e3 : vals 3 = _ := e3
      obtain ⟨z9, e9⟩ := e9
      replace e9 : vals 9 = _ := e9
      obtain ⟨z15, e15⟩ := e15
      replace e15 : vals 15 = _ := e15
      obtain ⟨s18, hs18, e18⟩ := e18
      replace e18 : vals 18 = _ := e18
      obtain ⟨s21, hs21, e21⟩ := e21
      replace e21 : vals 21 = _ := e21
      obtain ⟨z25, e25⟩ := e25
      replace e25 : vals 25 = _ := e25
      obtain ⟨z30, e30⟩ := e30
      replace e30 : vals 30 = _ := e30
      replace e32 : vals 32 = _ := e32
      simp only [chA, e3, e9, e15, e18, e21, e25, e30, e32]
      go_simp
      exact hK _ _ ⟨fun j => if j = 33 then _ else vals j, congrArg (fun vs : Nat → Value => chA (.agg #[.slice a n c, .int .i64 nx]) (.agg (chc ch).toArray) g (fun j => if j = 33 then _ else vs j)) (back (back (back (back (back (back (back (back rfl e3) e9) e15) e18) e21) e25) e30) e32), hb, chG_upd hg (Below.refl _ _) ⟨Ch.mk z3 z9 z15 s18 s21 z25 z30 ch.sp hs18 hs21, rfl⟩⟩
    | 34, _, ho, hK =>
      obtain rfl := Option.some.inj ho
      refine wpOp_plain rfl rfl ?_
      refine wp_alloc_row 76 rfl _ Try.z76 ?_
      exact hK _ _ ⟨fun j => if j = 34 then _ else vals j, rfl, (hb.alloc hb.size _), chG_upd hg ((Below.refl _ _).alloc (Nat.le_refl _) _) ⟨_, _, rfl, hb.size, Row.new x 76 (chc (Ch.mk 0 0 0 ⟨#[]⟩ ⟨#[]⟩ 0 0 ⟨#[]⟩ (by decide) (by decide))).toArray⟩⟩
    | 35, _, ho, hK =>
      obtain rfl := Option.some.inj ho
      refine wpOp_plain rfl rfl ?_
      have l34 : l 34 = true := hdep ⟨34, .data⟩ (by simp) rfl
      have e34 := hg 34 l34
      have l33 : l 33 = true := hdep ⟨33, .data⟩ (by simp) rfl
      have e33 := hg 33 l33
      obtain ⟨b34, c34, e34, hB34, hR34⟩ := e34
      replace e34 : vals 34 = _ := e34
      obtain ⟨c33, e33⟩ := e33
      replace e33 : vals 33 = _ := e33
      refine wp_put_row 76 (.tmp 5) (.tmp 39) rfl rfl b34 76 (chc c34).toArray (chc c33).toArray e34 e33 hR34 Try.n76 rfl (one_ch _) ?_
      refine hK _ _ ⟨vals, rfl, below_putRow hb hB34 _, fun j hj => ?_⟩
      by_cases j35 : j = 35
      · subst j35; trivial
      · have hj' : (if j = 35 then true else l j) = true := hj
        rw [if_neg j35] at hj'
        have := hg j hj'
        by_cases j34 : j = 34
        · subst j34; exact ⟨b34, c33, e34, hB34, hR34.setRow _⟩
        · unfold chG at this ⊢
          split at this <;> first | exact this | (exfalso; exact j34 rfl) | trivial
  · rintro l b x hl ⟨vals, rfl, hb, hg⟩
    obtain ⟨gv, c5, e34, hB5, hR5⟩ := hg 34 (hl 34 (by decide))
    have q7 : x.cell? ⟨g + 1, 7, none⟩ = some (.string ch.sp) := (HR1.out _ hb).cell 7
    simp only [chA, e34]
    clear hg hl
    generalize vals 0 = u6, vals 1 = u7, vals 2 = u8, vals 3 = u9, vals 4 = u10, vals 5 = u11, vals 6 = u12, vals 7 = u13, vals 8 = u14, vals 9 = u15, vals 10 = u16, vals 11 = u17, vals 12 = u18, vals 13 = u19, vals 14 = u20, vals 15 = u21, vals 16 = u22, vals 17 = u23, vals 18 = u24, vals 19 = u25, vals 20 = u26, vals 21 = u27, vals 22 = u28, vals 23 = u29, vals 24 = u30, vals 25 = u31, vals 26 = u32, vals 27 = u33, vals 28 = u34, vals 29 = u35, vals 30 = u36, vals 31 = u37, vals 32 = u38, vals 33 = u39
    clear e34
    have HBx := Lib.hid hb
    have HB5 := Lib.hid hB5
    have HR5 := Lib.hid hR5
    have h7 : x.cell? ⟨gv, 7, none⟩ = some (.string c5.sp) := hR5.cell 7
    have h7f := hR5.frozen 7
    clear hb hB5 hR5
    go_wp2_with fail
    refine (sep_any ch.sp _).mono ?_
    rintro e x2 ⟨⟨b, rfl⟩, hw⟩
    rw [hw]
    clear hw q7
    cases b with
    | true =>
      clear h7 h7f
      have h6 : x.cell? ⟨gv, 6, none⟩ = some (.int .i64 c5.pa) := HR5.out.cell 6
      go_wp2_with (first | ((with_reducible show wpList _ _ _ (Oper.mk _ (Op.load _ _) _ _ _ _ :: _) _ _); (refine wpList_load_row rfl 31 (.tmp 2) rfl g rfl 31 #[.slice a n c, .int .i64 nx] (0, 0) _ (HR0.out _ HBx.out) Try.underlying31 rfl Try.n31 ?_)))
      refine (group_any m _ c5.pa _ (by omega) (HSX.out _ HBx.out)).mono ?_
      rintro e x7 ⟨⟨b, rfl⟩, b7⟩
      have HB7 := Lib.hid (bel_tr HBx.out b7)
      have HR7 := Lib.hid (HR5.out.below b7 HR5.out.lt)
      clear b7 h6
      cases b with
      | true =>
        have HRz := Lib.hid (HR2.out _ HB7.out)
        go_wp2_with (first | ((with_reducible show wpList _ _ _ (Oper.mk _ (Op.load _ _) _ _ _ _ :: _) _ _); (refine wpList_load_row rfl 76 (.tmp 5) rfl gv rfl 76 (chc c5).toArray (0, 0) _ HR7.out Try.underlying76 rfl Try.n76 ?_)) | ((with_reducible show wpList _ _ _ (Oper.mk _ (Op.store _ _ _) _ _ _ _ :: _) _ _); refine wpList_put_arr rfl 76 (.tmp 4) (.tmp 51) rfl rfl (g + 1 + 1) 76 _ (chc c5).toArray rfl rfl HRz.out Try.n76 rfl (one_ch _) ?_))
        try simp only [Exit.inBlock, Exit.then]
        refine bodyPost_ret (results_cell_row (p := 4) (ty := 76) rfl _ _ (g + 1 + 1) 76 (chc c5).toArray (0, 0) _ rfl (Row.setRow HRz.out _) Try.underlying76 rfl Try.n76) rfl ?_
        exact ⟨⟨_, rfl⟩, HEND.out _ _ HB7.out⟩
      | false =>
        obtain ⟨c8, hc8⟩ : ∃ c, c = Ch.mk c5.k c5.id c5.wi c5.nm c5.ot c5.ty 0 c5.sp c5.hn c5.ho := ⟨_, rfl⟩
        obtain ⟨X8, hX8⟩ : ∃ W, W = x7.setCell ⟨gv, 6, none⟩ (.int .i64 0) := ⟨_, rfl⟩
        have HR8 := Lib.hid (show Row X8 gv 76 (chc c8).toArray by rw [hX8, hc8]; exact HR7.out.set 6 _)
        have HB8 := Lib.hid (show Below W2.heap.size W2 X8 by rw [hX8]; exact HB7.out.setCell (p := ⟨gv, 6, none⟩) HB5.out _)
        have h8 : x7.cell? ⟨gv, 6, none⟩ = some (.int .i64 c5.pa) := HR7.out.cell 6
        have h8f := HR7.out.frozen 6
        have HX8 := Lib.hid hX8.symm
        clear hX8 hc8
        go_upto_region 6 with fail
        rw [HX8.out]
        clear h8 h8f
        have HRz := Lib.hid (HR2.out _ HB8.out)
        go_wp2_with (first | ((with_reducible show wpList _ _ _ (Oper.mk _ (Op.load _ _) _ _ _ _ :: _) _ _); (refine wpList_load_row rfl 76 (.tmp 5) rfl gv rfl 76 (chc c8).toArray (0, 0) _ HR8.out Try.underlying76 rfl Try.n76 ?_)) | ((with_reducible show wpList _ _ _ (Oper.mk _ (Op.store _ _ _) _ _ _ _ :: _) _ _); refine wpList_put_arr rfl 76 (.tmp 4) (.tmp 51) rfl rfl (g + 1 + 1) 76 _ (chc c8).toArray rfl rfl HRz.out Try.n76 rfl (one_ch _) ?_))
        try simp only [Exit.inBlock, Exit.then]
        refine bodyPost_ret (results_cell_row (p := 4) (ty := 76) rfl _ _ (g + 1 + 1) 76 (chc c8).toArray (0, 0) _ rfl (Row.setRow HRz.out _) Try.underlying76 rfl Try.n76) rfl ?_
        exact ⟨⟨_, rfl⟩, HEND.out _ _ HB8.out⟩
    | false =>
      obtain ⟨c6, hc6⟩ : ∃ c, c = Ch.mk c5.k c5.id c5.wi c5.nm c5.ot c5.ty c5.pa ⟨#[45]⟩ c5.hn c5.ho := ⟨_, rfl⟩
      obtain ⟨X6, hX6⟩ : ∃ W, W = x.setCell ⟨gv, 7, none⟩ (.string ⟨#[45]⟩) := ⟨_, rfl⟩
      have HR6 := Lib.hid (show Row X6 gv 76 (chc c6).toArray by rw [hX6, hc6]; exact HR5.out.set 7 _)
      have HB6 := Lib.hid (show Below W2.heap.size W2 X6 by rw [hX6]; exact HBx.out.setCell (p := ⟨gv, 7, none⟩) HB5.out _)
      have HX6 := Lib.hid hX6.symm
      clear hX6 hc6
      go_upto_region 4 with fail
      rw [HX6.out]
      clear h7 h7f
      have h6 : X6.cell? ⟨gv, 6, none⟩ = some (.int .i64 c6.pa) := HR6.out.cell 6
      go_wp2_with (first | ((with_reducible show wpList _ _ _ (Oper.mk _ (Op.load _ _) _ _ _ _ :: _) _ _); (refine wpList_load_row rfl 31 (.tmp 2) rfl g rfl 31 #[.slice a n c, .int .i64 nx] (0, 0) _ (HR0.out _ HB6.out) Try.underlying31 rfl Try.n31 ?_)))
      refine (group_any m _ c6.pa _ (by omega) (HSX.out _ HB6.out)).mono ?_
      rintro e x7 ⟨⟨b, rfl⟩, b7⟩
      have HB7 := Lib.hid (bel_tr HB6.out b7)
      have HR7 := Lib.hid (HR6.out.below b7 HR6.out.lt)
      clear b7 h6
      cases b with
      | true =>
        have HRz := Lib.hid (HR2.out _ HB7.out)
        go_wp2_with (first | ((with_reducible show wpList _ _ _ (Oper.mk _ (Op.load _ _) _ _ _ _ :: _) _ _); (refine wpList_load_row rfl 76 (.tmp 5) rfl gv rfl 76 (chc c6).toArray (0, 0) _ HR7.out Try.underlying76 rfl Try.n76 ?_)) | ((with_reducible show wpList _ _ _ (Oper.mk _ (Op.store _ _ _) _ _ _ _ :: _) _ _); refine wpList_put_arr rfl 76 (.tmp 4) (.tmp 51) rfl rfl (g + 1 + 1) 76 _ (chc c6).toArray rfl rfl HRz.out Try.n76 rfl (one_ch _) ?_))
        try simp only [Exit.inBlock, Exit.then]
        refine bodyPost_ret (results_cell_row (p := 4) (ty := 76) rfl _ _ (g + 1 + 1) 76 (chc c6).toArray (0, 0) _ rfl (Row.setRow HRz.out _) Try.underlying76 rfl Try.n76) rfl ?_
        exact ⟨⟨_, rfl⟩, HEND.out _ _ HB7.out⟩
      | false =>
        obtain ⟨c8, hc8⟩ : ∃ c, c = Ch.mk c6.k c6.id c6.wi c6.nm c6.ot c6.ty 0 c6.sp c6.hn c6.ho := ⟨_, rfl⟩
        obtain ⟨X8, hX8⟩ : ∃ W, W = x7.setCell ⟨gv, 6, none⟩ (.int .i64 0) := ⟨_, rfl⟩
        have HR8 := Lib.hid (show Row X8 gv 76 (chc c8).toArray by rw [hX8, hc8]; exact HR7.out.set 6 _)
        have HB8 := Lib.hid (show Below W2.heap.size W2 X8 by rw [hX8]; exact HB7.out.setCell (p := ⟨gv, 6, none⟩) HB5.out _)
        have h8 : x7.cell? ⟨gv, 6, none⟩ = some (.int .i64 c6.pa) := HR7.out.cell 6
        have h8f := HR7.out.frozen 6
        have HX8 := Lib.hid hX8.symm
        clear hX8 hc8
        go_upto_region 6 with fail
        rw [HX8.out]
        clear h8 h8f
        have HRz := Lib.hid (HR2.out _ HB8.out)
        go_wp2_with (first | ((with_reducible show wpList _ _ _ (Oper.mk _ (Op.load _ _) _ _ _ _ :: _) _ _); (refine wpList_load_row rfl 76 (.tmp 5) rfl gv rfl 76 (chc c8).toArray (0, 0) _ HR8.out Try.underlying76 rfl Try.n76 ?_)) | ((with_reducible show wpList _ _ _ (Oper.mk _ (Op.store _ _ _) _ _ _ _ :: _) _ _); refine wpList_put_arr rfl 76 (.tmp 4) (.tmp 51) rfl rfl (g + 1 + 1) 76 _ (chc c8).toArray rfl rfl HRz.out Try.n76 rfl (one_ch _) ?_))
        try simp only [Exit.inBlock, Exit.then]
        refine bodyPost_ret (results_cell_row (p := 4) (ty := 76) rfl _ _ (g + 1 + 1) 76 (chc c8).toArray (0, 0) _ rfl (Row.setRow HRz.out _) Try.underlying76 rfl Try.n76) rfl ?_
        exact ⟨⟨_, rfl⟩, HEND.out _ _ HB8.out⟩
end Go.Proofs.Ytkonoojmhjinpaa
