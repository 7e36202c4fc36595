/- Contracts: Merge. -/
import Derived.Test.YtkonoojmhjinpaaMh
import Derived.Test.YtkonoojmhjinpaaQ
set_option linter.all false
namespace Go.Proofs.Ytkonoojmhjinpaa
open Go.RowKit Go.Fen
set_option linter.unusedVariables false
set_option maxHeartbeats 16000000

/-- the state that a merge takes -/
def pick (x own y : Option Rv) : Option Rv := if sameS x own then y else x
def freshL (N : Int) (L : List Ln) : List Ln := L.dropWhile fun l => decide (l.n < N)
def mergeF (La Lo : List Ln) (l : Ln) : List Ln := outOf l.n (pick (findS La l.n) (some l.r) (findS Lo l.n))
/-- what Merge reckons -/
def mergeR (N : Int) (L La Lo : List Ln) : List Ln := L.flatMap (mergeF La Lo) ++ freshL N La
theorem drop_fresh (N : Int) : ∀ (L : List Ln) (k : Nat), (∀ (j : Nat) (l : Ln), j < k → L[j]? = some l → l.n < N) → (∀ l, L[k]? = some l → N ≤ l.n) → L.drop k = freshL N L
  | [], k, _, _ => by simp [freshL]
  | x :: L, 0, _, h => by
    have := h x rfl
    have e : decide (x.n < N) = false := decide_eq_false (by omega)
    simp [freshL, List.dropWhile_cons, e]
  | x :: L, k + 1, h1, h2 => by
    have := h1 0 x (by omega) rfl
    have e : decide (x.n < N) = true := decide_eq_true this
    rw [List.drop_succ_cons, drop_fresh N L k (fun j l hj hl => h1 (j + 1) l (by omega) (by simpa using hl)) (fun l hl => h2 l (by simpa using hl))]
    simp [freshL, List.dropWhile_cons, e]
theorem fresh_nil {N : Int} {L : List Ln} (h : ∀ l ∈ L, l.n < N) : freshL N L = [] := by
  rw [← drop_fresh N L L.length (fun j l _ hl => h l (List.mem_of_getElem? hl)) (fun l hl => by rw [List.getElem?_eq_none (Nat.le_refl _)] at hl; cases hl), List.drop_length]
theorem mergeF_len (La Lo : List Ln) : ∀ L : List Ln, (L.flatMap (mergeF La Lo)).length ≤ L.length
  | [] => by simp
  | l :: L => by
    rw [List.flatMap_cons, List.length_append, List.length_cons]
    have := mergeF_len La Lo L
    have := outOf_len l.n (pick (findS La l.n) (some l.r) (findS Lo l.n))
    unfold mergeF
    unfold mergeF at *
    omega
theorem freshL_len (N : Int) (L : List Ln) : (freshL N L).length ≤ L.length := (List.dropWhile_sublist _).length_le
theorem AccG.stf {V0 w : World} {gv : Nat} {t e : TypeId} {mk : Value → Array Value} {k n : Nat} {v : Value} {xs : List Value} {z : Array Value} {u : Value} {L : List Ln} (hA : AccG V0 gv t mk e k v n xs w) (hr : Row V0 gv t z) (h1 : t ≠ 45) (h2 : t ≠ 71) (h3 : t ≠ 58) (h4 : t ≠ 115) (h : StF V0 u L) : StF w u L :=
  h.but hr h1 h2 h3 h4 hA.2.2.size fun q hq hne => hA.2.2.block q hq fun e => hne (Option.some.inj e)
/-- what each operation leaves of the statement that makes both look-ups -/
def mmG (Na No : Int) (a2 a3 : Option Addr) (n2 n3 c2 c3 : Nat) (La Lo : List Ln) (x : World) : Nat → Value → Prop
  | 0, v => v = .agg #[.int .i64 Na, .slice a2 n2 c2]
  | 1, v => StF x v La
  | 2, v => v = .agg #[.int .i64 No, .slice a3 n3 c3]
  | 3, v => StF x v Lo
  | 4, v => StF x v La
  | 5, v => StF x v Lo
  | _, _ => True
theorem mmG_mono {Na No : Int} {a2 a3 : Option Addr} {n2 n3 c2 c3 : Nat} {La Lo : List Ln} {x x' : World} (h : Below x.heap.size x x') : ∀ j v, mmG Na No a2 a3 n2 n3 c2 c3 La Lo x j v → mmG Na No a2 a3 n2 n3 c2 c3 La Lo x' j v := by
  intro j v hv
  unfold mmG at hv ⊢
  split at hv <;> first | exact hv | exact StF.bel hv h | trivial
theorem mmG_upd {Na No : Int} {a2 a3 : Option Addr} {n2 n3 c2 c3 : Nat} {La Lo : List Ln} {x x' : World} {l : Nat → Bool} {vals : Nat → Value} {i : Nat} {v : Value} (h : ∀ j, l j = true → mmG Na No a2 a3 n2 n3 c2 c3 La Lo x j (vals j)) (hx : Below x.heap.size x x') (hv : mmG Na No a2 a3 n2 n3 c2 c3 La Lo x' i v) :
    ∀ j, (if j = i then true else l j) = true → mmG Na No a2 a3 n2 n3 c2 c3 La Lo x' j (if j = i then v else vals j) := by
  intro j hj
  by_cases e : j = i
  · subst e; rw [if_pos rfl]; exact hv
  · rw [if_neg e] at hj ⊢
    exact mmG_mono hx _ _ (h j hj)
def mmA (tb ta tc : Value) (g : Nat) (vals : Nat → Value) : Act := { tmps := #[tb, ta, tc, .pointer (some ⟨g, 0, none⟩), .pointer (some ⟨g + 1, 0, none⟩), .pointer (some ⟨g + 1 + 1, 0, none⟩), .pointer (some ⟨g + 1 + 1 + 1, 0, none⟩), .slice none 0 0, .int .i64 0, vals 4, vals 5, undef, undef, undef, undef, undef, undef, undef, undef, undef, tb, ta, .bool true, .bool false, .bool false, tb, tc, .bool true, .bool false, .bool false, undef, vals 0, vals 1, vals 2, vals 3, undef, undef, undef, undef, undef, undef, undef, undef, undef, undef, undef, undef, undef, undef, undef, undef, undef, undef, undef, undef, undef, undef, undef, undef, undef, undef, undef, undef, undef, undef, undef, undef, undef, undef, undef, undef, undef, undef, undef, undef, undef, undef, undef, undef, undef, undef, undef, undef, undef, undef, undef, undef, undef, undef, undef, undef, undef, undef, undef, undef, undef, undef, undef, undef, undef, undef, undef, undef, undef, undef, undef, undef, undef, undef, undef, undef, undef, undef, undef, undef, undef, undef, undef, undef, undef, undef, undef, undef, undef, undef, undef, undef, undef, undef, undef, undef, undef, undef, undef, undef, undef, undef, undef, undef, undef, undef, undef, undef], defers := [] }
set_option maxRecDepth 40000 in
theorem mmerge_any (vb va vo : Value) (N Na No : Int) (L La Lo : List Ln) (w : World) (hTb : Tb w vb N L) (hTa : Tb w va Na La) (hTo : Tb w vo No Lo) (hR : Rising N L) (hRa : Rising Na La) (hRo : Rising No Lo) (h0 : 0 ≤ N) (h1 : N ≤ 1000000) (ha1 : Na ≤ 1000000) (ho1 : No ≤ 1000000) (hl : L.length ≤ 1000) (hla : La.length ≤ 1000) (hlo : Lo.length ≤ 1000) (hNa : N ≤ Na) (hNo : N ≤ No)
    (hinA : ∀ l ∈ La, l.n < N → ∃ r, findS L l.n = some r) (hinO : ∀ l ∈ Lo, l.n < N → ∃ r, findS L l.n = some r) (hO : ∀ l ∈ Lo, l.n < N) (hconf : ∀ l ∈ L, sameS (findS La l.n) (some l.r) = true ∨ sameS (findS Lo l.n) (some l.r) = true) :
    Calls Try.prog 12 #[vb, va, vo] w fun e w' => (∃ v', e = .returned (.tuple #[v', .slice none 0 0, .int .i64 0]) ∧ Tb w' v' Na (mergeR N L La Lo)) ∧ Below w.heap.size w w' := by
  have HF1 := Lib.hid (fun w' (hb : Below w.heap.size w w') => mfits_any vb va N Na L La w' (hTb.bel hb) (hTa.bel hb) hR hRa h1 ha1 hl hla hNa hinA)
  have HF2 := Lib.hid (fun w' (hb : Below w.heap.size w w') => mfits_any vb vo N No L Lo w' (hTb.bel hb) (hTo.bel hb) hR hRo h1 ho1 hl hlo hNo hinO)
  have HSA := Lib.hid (fun w' (hb : Below w.heap.size w w') => states_any va Na La w' (hTa.bel hb) hRa ha1 hla)
  have HSO := Lib.hid (fun w' (hb : Below w.heap.size w w') => states_any vo No Lo w' (hTo.bel hb) hRo ho1 hlo)
  have HFA := Lib.hid (fun w' (hb : Below w.heap.size w w') => fresh_any vb va N Na L La w' (hTb.bel hb) (hTa.bel hb) hla)
  have HFO := Lib.hid (fun w' (hb : Below w.heap.size w w') => fresh_any vb vo N No L Lo w' (hTb.bel hb) (hTo.bel hb) hlo)
  obtain ⟨a1, c1, rfl, hc1, hL1⟩ := hTb
  obtain ⟨a2, c2, rfl, hc2, hL2⟩ := hTa
  obtain ⟨a3, c3, rfl, hc3, hL3⟩ := hTo
  have HLs := Lib.hid (show Lns w a1 L ∧ (∀ l ∈ L, 0 ≤ l.n ∧ l.n < 1000000) from ⟨hL1, fun l hl => by have := hR.1 l hl; omega⟩)
  have HO := Lib.hid hO
  have HCONF := Lib.hid hconf
  have HLEN := Lib.hid (show L.length ≤ 1000 ∧ La.length ≤ 1000 ∧ Lo.length ≤ 1000 ∧ Na ≤ 1000000 from ⟨hl, hla, hlo, ha1⟩)
  have HLA := Lib.hid hL2
  obtain ⟨n1, hn1⟩ : ∃ n, n = L.length := ⟨_, rfl⟩
  obtain ⟨n2, hn2⟩ : ∃ n, n = La.length := ⟨_, rfl⟩
  obtain ⟨n3, hn3⟩ : ∃ n, n = Lo.length := ⟨_, rfl⟩
  rw [← hn1] at HF1 HF2 HFA HFO ⊢
  rw [← hn2] at HF1 HSA HFA ⊢
  rw [← hn3] at HF2 HSO HFO ⊢
  have hln : n1 ≤ 1000 := by omega
  have HN1 := Lib.hid hn1
  have hNab : Na ≤ 1000000 := ha1
  obtain ⟨g, eg⟩ : ∃ g, g = w.heap.size := ⟨_, rfl⟩
  obtain ⟨W0, hW0⟩ : ∃ W, W = w.alloc (.cells #[.int .i64 N, .slice a1 n1 c1] 38) := ⟨_, rfl⟩
  obtain ⟨W1, hW1⟩ : ∃ W, W = W0.alloc (.cells #[.int .i64 Na, .slice a2 n2 c2] 38) := ⟨_, rfl⟩
  obtain ⟨W2, hW2⟩ : ∃ W, W = W1.alloc (.cells #[.int .i64 No, .slice a3 n3 c3] 38) := ⟨_, rfl⟩
  obtain ⟨W3, hW3⟩ : ∃ W, W = W2.alloc (.cells #[.int .i64 0, .slice none 0 0] 38) := ⟨_, rfl⟩
  have z0 : W0.heap.size = g + 1 := by rw [hW0, eg]; simp
  have z1 : W1.heap.size = g + 1 + 1 := by rw [hW1, World.size_alloc, z0]
  have z2 : W2.heap.size = g + 1 + 1 + 1 := by rw [hW2, World.size_alloc, z1]
  have b0 : Below w.heap.size w W3 := by rw [hW3, hW2, hW1, hW0]; exact ((((Below.refl _ _).alloc (Nat.le_refl _) _).alloc (by simp) _).alloc (by simp <;> omega) _).alloc (by simp <;> omega) _
  have R0 : Row W3 g 38 #[.int .i64 N, .slice a1 n1 c1] := by rw [hW3, hW2, hW1, hW0, eg]; exact (((Row.new w 38 _).alloc _).alloc _).alloc _
  have R1 : Row W3 (g + 1) 38 #[.int .i64 Na, .slice a2 n2 c2] := by rw [hW3, hW2, hW1]; exact ((Row.new' 38 _ z0.symm).alloc _).alloc _
  have R2 : Row W3 (g + 1 + 1) 38 #[.int .i64 No, .slice a3 n3 c3] := by rw [hW3, hW2]; exact (Row.new' 38 _ z1.symm).alloc _
  have R3 : Row W3 (g + 1 + 1 + 1) 38 #[.int .i64 0, .slice none 0 0] := by rw [hW3]; exact Row.new' 38 _ z2.symm
  have HR := Lib.hid (show Row W3 g 38 #[.int .i64 N, .slice a1 n1 c1] ∧ Row W3 (g + 1) 38 #[.int .i64 Na, .slice a2 n2 c2] ∧ Row W3 (g + 1 + 1) 38 #[.int .i64 No, .slice a3 n3 c3] ∧ Row W3 (g + 1 + 1 + 1) 38 #[.int .i64 0, .slice none 0 0] from ⟨R0, R1, R2, R3⟩)
  have HKEEP := Lib.hid (fun X (h : Below W3.heap.size W3 X) => (⟨(R0.below h R0.lt).cell 0, (R0.below h R0.lt).cell 1, (R1.below h R1.lt).cell 0, (R1.below h R1.lt).cell 1, (R2.below h R2.lt).cell 0, (R2.below h R2.lt).cell 1⟩ :
    X.cell? ⟨g, 0, none⟩ = some (.int .i64 N) ∧ X.cell? ⟨g, 1, none⟩ = some (.slice a1 n1 c1) ∧ X.cell? ⟨g + 1, 0, none⟩ = some (.int .i64 Na) ∧ X.cell? ⟨g + 1, 1, none⟩ = some (.slice a2 n2 c2) ∧ X.cell? ⟨g + 1 + 1, 0, none⟩ = some (.int .i64 No) ∧ X.cell? ⟨g + 1 + 1, 1, none⟩ = some (.slice a3 n3 c3)))
  have HW0 := Lib.hid hW0
  have HW1 := Lib.hid hW1
  have HW2 := Lib.hid hW2
  have HW3 := Lib.hid hW3
  have EG := Lib.hid eg
  have Z0 := Lib.hid z0
  have Z1 := Lib.hid z1
  have Z2 := Lib.hid z2
  have HB := Lib.hid b0
  have HC1 := Lib.hid (HF1.out W3 b0)
  obtain ⟨k0, k1, k2, k3, k4, k5⟩ := HKEEP.out W3 (Below.refl _ _)
  clear hW0 hW1 hW2 hW3 eg z0 z1 z2 b0 R0 R1 R2 R3 hL1 hL2 hL3 hn1 hn2 hn3 hc1 hc2 hc3 hR hRa hRo h0 h1 ha1 ho1 hl hla hlo hNa hNo hinA hinO hO hconf
  go_enter Try.func12, Try.ntmps12
  go_wp2_with (first | ((with_reducible show wpList _ _ _ (Oper.mk _ (Op.box _ _) _ _ _ _ :: _) _ _); (first | (refine wpList_box_row rfl 38 (.tmp 0) rfl _ rfl g EG.out ?_; refine wpList_atE HW0.out ?_) | (refine wpList_box_row rfl 38 (.tmp 1) rfl _ rfl (g + 1) Z0.out.symm ?_; refine wpList_atE HW1.out ?_) | (refine wpList_box_row rfl 38 (.tmp 2) rfl _ rfl (g + 1 + 1) Z1.out.symm ?_; refine wpList_atE HW2.out ?_))) | ((with_reducible show wpList _ _ _ (Oper.mk _ (Op.alloc _) _ _ _ _ :: _) _ _); (refine wpList_alloc_row rfl 38 rfl #[.int .i64 0, .slice none 0 0] Try.z38 (g + 1 + 1 + 1) Z2.out.symm ?_; refine wpList_atE HW3.out ?_)))
  refine HC1.out.mono ?_
  rintro e w4 ⟨rfl, hb4⟩
  have HB4 := Lib.hid hb4
  clear k0 k1 k2 k3 k4 k5 hb4
  obtain ⟨k0, k1, k2, k3, k4, k5⟩ := HKEEP.out w4 HB4.out
  have HC2 := Lib.hid (HF2.out w4 (bel_tr HB.out HB4.out))
  go_wp2_with fail
  refine HC2.out.mono ?_
  rintro e w5 ⟨rfl, hb5⟩
  have HB5 := Lib.hid (bel_tr HB4.out hb5)
  clear k0 k1 k2 k3 k4 k5 hb5
  obtain ⟨k0, k1, k2, k3, k4, k5⟩ := HKEEP.out w5 HB5.out
  go_upto_region 3 with fail
  try simp only [Act.put, List.setIfInBounds_toArray, List.set_cons_zero, List.set_cons_succ]
  have HD := Lib.hid (below_drewN (Below.refl w5.heap.size w5) 1)
  have HSAi := Lib.hid (fun X (h : Below w5.heap.size w5 X) => HSA.out X (bel_tr HB.out (bel_tr HB5.out h)))
  have HSOi := Lib.hid (fun X (h : Below w5.heap.size w5 X) => HSO.out X (bel_tr HB.out (bel_tr HB5.out h)))
  refine wp_region_rely rfl (by kernel_rfl) (fun l b x => ∃ vals : Nat → Value, b = mmA (.agg #[.int .i64 N, .slice a1 n1 c1]) (.agg #[.int .i64 Na, .slice a2 n2 c2]) (.agg #[.int .i64 No, .slice a3 n3 c3]) g vals ∧ Below w5.heap.size w5 x ∧ ∀ j, l j = true → mmG Na No a2 a3 n2 n3 c2 c3 La Lo x j (vals j)) ?_ ?_ ?_
  · exact ⟨fun _ => undef, rfl, below_drewN (Below.refl _ _) 1, fun j hj => by cases hj⟩
  · rintro l b x i o ho ⟨vals, rfl, hb, hg⟩ hdep K hK
    have hi : i < 6 := (Array.getElem?_eq_some_iff.1 ho).1
    obtain ⟨q0, q1, q2, q3, q4, q5⟩ := HKEEP.out x (bel_tr HB5.out hb)
    match i, hi, ho, hK with
    | 0, _, ho, hK =>
      obtain rfl := Option.some.inj ho
      refine wpOp_plain rfl rfl ?_
      simp only [mmA]
      go_simp
      exact hK _ _ ⟨fun j => if j = 0 then _ else vals j, rfl, hb, mmG_upd hg (Below.refl _ _) rfl⟩
    | 1, _, ho, hK =>
      obtain rfl := Option.some.inj ho
      refine wpOp_plain rfl rfl ?_
      have l0 : l 0 = true := hdep ⟨0, .data⟩ (by simp) rfl
      have e0 := hg 0 l0
      replace e0 : vals 0 = _ := e0
      simp only [mmA, e0]
      go_simp
      go_at_call 33
      refine (HSAi.out _ hb).mono ?_
      rintro e x2 ⟨u, rfl, hu, bx⟩
      try simp only [Act.put]
      exact hK _ _ ⟨fun j => if j = 1 then _ else vals j, congrArg (fun vs : Nat → Value => mmA (.agg #[.int .i64 N, .slice a1 n1 c1]) (.agg #[.int .i64 Na, .slice a2 n2 c2]) (.agg #[.int .i64 No, .slice a3 n3 c3]) g (fun j => if j = 1 then _ else vs j)) (back rfl e0), bel_tr hb bx, mmG_upd hg bx hu⟩
    | 2, _, ho, hK =>
      obtain rfl := Option.some.inj ho
      refine wpOp_plain rfl rfl ?_
      simp only [mmA]
      go_simp
      exact hK _ _ ⟨fun j => if j = 2 then _ else vals j, rfl, hb, mmG_upd hg (Below.refl _ _) rfl⟩
    | 3, _, ho, hK =>
      obtain rfl := Option.some.inj ho
      refine wpOp_plain rfl rfl ?_
      have l2 : l 2 = true := hdep ⟨2, .data⟩ (by simp) rfl
      have e2 := hg 2 l2
      replace e2 : vals 2 = _ := e2
      simp only [mmA, e2]
      go_simp
      go_at_call 33
      refine (HSOi.out _ hb).mono ?_
      rintro e x2 ⟨u, rfl, hu, bx⟩
      try simp only [Act.put]
      exact hK _ _ ⟨fun j => if j = 3 then _ else vals j, congrArg (fun vs : Nat → Value => mmA (.agg #[.int .i64 N, .slice a1 n1 c1]) (.agg #[.int .i64 Na, .slice a2 n2 c2]) (.agg #[.int .i64 No, .slice a3 n3 c3]) g (fun j => if j = 3 then _ else vs j)) (back rfl e2), bel_tr hb bx, mmG_upd hg bx hu⟩
    | 4, _, ho, hK =>
      obtain rfl := Option.some.inj ho
      refine wpOp_plain rfl rfl ?_
      have l1 : l 1 = true := hdep ⟨1, .data⟩ (by simp) rfl
      have e1 := hg 1 l1
      simp only [mmA]
      go_simp
      exact hK _ _ ⟨fun j => if j = 4 then vals 1 else vals j, rfl, hb, mmG_upd hg (Below.refl _ _) e1⟩
    | 5, _, ho, hK =>
      obtain rfl := Option.some.inj ho
      refine wpOp_plain rfl rfl ?_
      have l3 : l 3 = true := hdep ⟨3, .data⟩ (by simp) rfl
      have e3 := hg 3 l3
      simp only [mmA]
      go_simp
      exact hK _ _ ⟨fun j => if j = 5 then vals 3 else vals j, rfl, hb, mmG_upd hg (Below.refl _ _) e3⟩
  rintro l b x hl ⟨vals, rfl, hb6, hg⟩
  have hsa : StF x (vals 4) La := hg 4 (hl 4 (by decide))
  have hso : StF x (vals 5) Lo := hg 5 (hl 5 (by decide))
  simp only [mmA]
  clear hg hl
  generalize vals 4 = s9 at *
  generalize vals 5 = s10 at *
  generalize vals 0 = s31 at *
  generalize vals 1 = s32 at *
  generalize vals 2 = s33 at *
  generalize vals 3 = s34 at *
  clear vals l k0 k1 k2 k3 k4 k5
  have HB6 := Lib.hid (bel_tr HB5.out hb6)
  obtain ⟨gma, bma, kma, fa, rfl, hgma, hma, hpa⟩ := id hsa
  obtain ⟨gmo, bmo, kmo, fo, rfl, hgmo, hmo, hpo⟩ := id hso
  obtain ⟨gv, hgv⟩ : ∃ z, z = x.heap.size := ⟨_, rfl⟩
  obtain ⟨V0, hV0⟩ : ∃ W, W = x.alloc (.cells #[.int .i64 Na, .slice none 0 0] 38) := ⟨_, rfl⟩
  have b7 : Below x.heap.size x V0 := by rw [hV0]; exact (Below.refl _ _).alloc (Nat.le_refl _) _
  have RV : Row V0 gv 38 #[.int .i64 Na, .slice none 0 0] := by rw [hV0]; exact Row.new' 38 _ hgv
  have A0 : AccG V0 gv 38 (mkT Na) 45 2 (.slice none 0 0) 0 (([] : List Ln).flatMap lnc) V0 := ⟨World.ownsRow_nil _ _ _ _, RV, grown_refl _ _⟩
  have HA0 := Lib.hid A0
  have HRV := Lib.hid RV
  have HBV := Lib.hid (bel_tr HB6.out b7)
  have HBVw := Lib.hid (bel_tr HB.out HBV.out)
  have HSFA := Lib.hid (hsa.bel b7)
  have HSFO := Lib.hid (hso.bel b7)
  have HSTA := Lib.hid (show Row V0 gma 115 #[.map (some bma)] ∧ MapF V0 bma kma fa ∧ (∀ n, Pt V0 (fa n) (findS La n)) from ⟨hgma.below b7 hgma.lt, hma.at (b7.block _ hma.lt), fun n => (hpa n).bel b7⟩)
  have HSTO := Lib.hid (show Row V0 gmo 115 #[.map (some bmo)] ∧ MapF V0 bmo kmo fo ∧ (∀ n, Pt V0 (fo n) (findS Lo n)) from ⟨hgmo.below b7 hgmo.lt, hmo.at (b7.block _ hmo.lt), fun n => (hpo n).bel b7⟩)
  have HLV := Lib.hid (HLs.out.1.bel HBVw.out)
  have HG := Lib.hid (show g + 1 + 1 + 1 < gv ∧ gv < V0.heap.size ∧ W3.heap.size ≤ gv by
    rw [hgv]
    refine ⟨Nat.lt_of_lt_of_le HR.out.2.2.2.lt (HB6.out.size), ?_, HB6.out.size⟩
    rw [← hgv]; exact RV.lt)
  have HGV := Lib.hid hgv
  have HV0 := Lib.hid hV0
  obtain ⟨k0, k1, k2, k3, k4, k5⟩ := HKEEP.out x HB6.out
  obtain ⟨j0, j1, j2, j3, j4, j5⟩ := HKEEP.out V0 HBV.out
  clear hsa hso hgma hma hpa hgmo hmo hpo hgv hV0 b7 RV A0 hb6
  go_wp2_with (first | ((with_reducible show wpList _ _ _ (Oper.mk _ (Op.alloc _) _ _ _ _ :: _) _ _); (refine wpList_new_row rfl rfl 38 12 (.tmp 37) rfl rfl rfl rfl gv HGV.out #[.int .i64 Na, .slice none 0 0] rfl rfl _ Try.z38 Try.n38 rfl (by simp [Value.oneCell']) ?_; refine wpList_atE HV0.out ?_)))
  clear k0 k1 k2 k3 k4 k5 j0 j1 j2 j3 j4 j5
  go_loopw [41, 11] (fun iv cv wr => ∃ (k : Nat) (u : Value) (A : List Ln), k ≤ n1 ∧ iv = .int .i64 k ∧ cv = .slice none 0 0 ∧ A = (L.take k).flatMap (mergeF La Lo) ∧ AccG V0 gv 38 (mkT Na) 45 2 u A.length (A.flatMap lnc) wr ∧ ∀ l ∈ A, Rok V0 l.r) (fun iv _ _ => n1 - (intOf iv).toNat)
  case atStart => exact ⟨0, _, [], by omega, rfl, rfl, rfl, HA0.out, by simp⟩
  case round =>
    obtain ⟨k, u, A, hk, rfl, rfl, hAk, hA, hok⟩ := hrel
    have HA := Lib.hid hA
    have HOK := Lib.hid hok
    have HAK := Lib.hid hAk
    have BA := hA.bel (B := gv) (Nat.le_refl _) (Nat.le_of_lt HG.out.2.1)
    have HB3r := Lib.hid (show Below W3.heap.size W3 wr from HBV.out.trans (BA.mono HG.out.2.2))
    by_cases hkn : k < n1
    · have ki : (k : Int) < (n1 : Int) := by omega
      have HLW := HA.out.lns HRV.out (by decide) (by decide) HLV.out
      obtain ⟨gl, ol, rfl, hgl, hc⟩ := HLW.1.form (by rw [← HN1.out]; omega)
      obtain ⟨l, hl⟩ : ∃ f, L[k]? = some f := ⟨_, List.getElem?_eq_getElem (by rw [← HN1.out]; omega)⟩
      obtain ⟨hlb0, hlb1⟩ := HLs.out.2 l (List.mem_of_getElem? hl)
      have HNEXT := Lib.hid (show (L.take (k + 1)).flatMap (mergeF La Lo) = A ++ mergeF La Lo l from by rw [HAK.out]; exact take_flat _ L k l hl)
      have c0 : wr.cell? ⟨gl, ol + k * 2, none⟩ = some (.int .i64 l.n) := by have := hc k l hl 0 _ rfl; rw [Nat.add_zero] at this; exact this
      have c1 : wr.cell? ⟨gl, ol + k * 2 + 1, none⟩ = some (rvv l.r) := hc k l hl 1 _ rfl
      have HPO := Lib.hid (ln_pt HLV.out hl)
      have HCF := Lib.hid (HCONF.out l (List.mem_of_getElem? hl))
      obtain ⟨gx, hgx⟩ : ∃ z, z = wr.heap.size := ⟨_, rfl⟩
      obtain ⟨Wz, hWz⟩ : ∃ W, W = wr.alloc (.cells #[.int .i64 0, .slice none 0 0] 45) := ⟨_, rfl⟩
      obtain ⟨W5, hW5⟩ : ∃ W, W = Wz.setRow gx #[.int .i64 l.n, rvv l.r] := ⟨_, rfl⟩
      have Rz : Row Wz gx 45 #[.int .i64 0, .slice none 0 0] := by rw [hWz]; exact Row.new' 45 _ hgx
      have b5 : Below wr.heap.size wr W5 := by rw [hW5, hWz, setRow_new _ _ _ _ _ hgx]; exact (Below.refl _ _).alloc (Nat.le_refl _) _
      have R5 : Row W5 gx 45 #[.int .i64 l.n, rvv l.r] := by rw [hW5]; exact Row.setRow Rz _
      have k50 : W5.cell? ⟨gx, 0, none⟩ = some (.int .i64 l.n) := R5.cell 0
      obtain ⟨j0, j1, j2, j3, j4, j5⟩ := HKEEP.out wr HB3r.out
      obtain ⟨i0, i1, i2, i3, i4, i5⟩ := HKEEP.out W5 (HB3r.out.trans (b5.mono HB3r.out.size))
      clear j0 j2 j3 j4 j5 i0 i2 i3 i4 i5
      obtain ⟨gma', ba, ka, fa', ea, hga, hma, hpa⟩ := ((HA.out.stf HRV.out (by decide) (by decide) (by decide) (by decide) HSFA.out).bel b5)
      obtain ⟨gmo', bo, ko, fo', eo, hgo, hmo, hpo⟩ := ((HA.out.stf HRV.out (by decide) (by decide) (by decide) (by decide) HSFO.out).bel b5)
      obtain rfl : gma = gma' := by simpa using ea
      obtain rfl : gmo = gmo' := by simpa using eo
      have HCA := Lib.hid (fun q => state_any gma ba ka fa' l.n (W5.drewN q) (hga.below (below_drewN (Below.refl _ _) q) hga.lt) (hma.at ((below_drewN (Below.refl W5.heap.size W5) q).block _ hma.lt)) hlb0 hlb1)
      have HCO := Lib.hid (fun q => state_any gmo bo ko fo' l.n (W5.drewN q) (hgo.below (below_drewN (Below.refl _ _) q) hgo.lt) (hmo.at ((below_drewN (Below.refl W5.heap.size W5) q).block _ hmo.lt)) hlb0 hlb1)
      have hpa' := hpa l.n
      have hpo' := hpo l.n
      have HPO5 := Lib.hid ((HA.out.pt HRV.out (by decide) (by decide) (by decide) HPO.out).bel b5)
      obtain ⟨pA, hpA⟩ : ∃ p, p = fa' l.n := ⟨_, rfl⟩
      obtain ⟨pB, hpB⟩ : ∃ p, p = fo' l.n := ⟨_, rfl⟩
      obtain ⟨xs, hxs⟩ : ∃ p, p = findS La l.n := ⟨_, rfl⟩
      obtain ⟨ys, hys⟩ : ∃ p, p = findS Lo l.n := ⟨_, rfl⟩
      rw [← hpA, ← hxs] at hpa'
      rw [← hpB, ← hys] at hpo'
      rw [← hpA] at HCA
      rw [← hpB] at HCO
      rw [← hxs, ← hys] at HCF
      have HXY := Lib.hid (show mergeF La Lo l = outOf l.n (pick xs (some l.r) ys) from by rw [hxs, hys]; rfl)
      have HXS := Lib.hid hxs
      have HYS := Lib.hid hys
      have HE1 := Lib.hid (fun X (hb : Below W5.heap.size W5 X) => mequal_any pA (some ⟨gl, ol + k * 2 + 1, none⟩) xs (some l.r) X (hpa'.bel hb) (HPO5.out.bel hb))
      have HE2 := Lib.hid (fun X (hb : Below W5.heap.size W5 X) => mequal_any pB (some ⟨gl, ol + k * 2 + 1, none⟩) ys (some l.r) X (hpo'.bel hb) (HPO5.out.bel hb))
      have HX := Lib.hid hgx
      have HWz := Lib.hid hWz
      have HW5 := Lib.hid hW5
      have HRz := Lib.hid Rz
      have HR5 := Lib.hid R5
      have HB5 := Lib.hid b5
      have HKN := Lib.hid hkn
      have HPA' := Lib.hid hpa'
      have HPB' := Lib.hid hpo'
      have HONE := Lib.hid (show (#[Value.int .i64 l.n, rvv l.r]).all (·.oneCell') = true by simp [Value.oneCell', rvv])
      have HAL := Lib.hid (show A.length ≤ 1000 from by rw [HAK.out]; have := mergeF_len La Lo (L.take k); rw [List.length_take] at this; have := HN1.out; omega)
      clear hgx hWz hW5 Rz R5 hxs hys hpA hpB hpa hpo ea eo hga hma hgo hmo hc hgl hl hlb0 hlb1 hA hok hAk hkn hk BA b5 HLW hpa' hpo'
      cases he1 : sameS xs (some l.r) with
      | true =>
        have HS1 := Lib.hid he1
        rw [he1] at HE1
        clear he1
        rcases HPB'.out with ⟨hpn, hpv⟩ | ⟨gr, or, r, hpn, hpv, hgr, hcr, _⟩
        · skip
          try rw [hpn] at HCA
          try rw [hpn] at HCO
          try rw [hpn] at HE1
          try rw [hpn] at HE2
          have HPV := Lib.hid hpv
          clear hpn hpv
          go_wp2_with (first | ((with_reducible show wpList _ _ _ (Oper.mk _ (Op.alloc _) _ _ _ _ :: _) _ _); (refine wpList_alloc_row rfl 45 rfl #[.int .i64 0, .slice none 0 0] Try.z45 gx HX.out ?_; refine wpList_atE HWz.out ?_)) | ((with_reducible show wpList _ _ _ (Oper.mk _ (Op.store _ _ _) _ _ _ _ :: _) _ _); (refine wpList_put_arr rfl 45 (.tmp 14) (.tmp 45) rfl rfl gx 45 _ #[.int .i64 l.n, rvv l.r] rfl rfl HRz.out Try.n45 rfl HONE.out ?_; refine wpList_atE HW5.out ?_)))
          go_quiet (first | (go_at_call 52; exact Calls.quiet_of_same (HCA.out _)) | (go_at_call 52; exact Calls.quiet_of_same (HCO.out _)))
          have HBq := Lib.hid (below_drewN (Below.refl W5.heap.size W5) nq)
          clear i1 j1 c0 c1 k50
          go_wp2_with fail
          refine (HE1.out _ HBq.out).mono ?_
          rintro e w7 ⟨rfl, hb⟩
          have HB7 := Lib.hid (bel_tr HBq.out hb)
          clear hb
          go_wp2_with fail
          refine (HE1.out w7 HB7.out).mono ?_
          rintro e w8 ⟨rfl, hb⟩
          have HB8 := Lib.hid (bel_tr HB7.out hb)
          clear hb
          go_wp2_with fail
          go_roundw
          case rel => exact ⟨k + 1, _, A, HKN.out, by go_num, rfl, by rw [HNEXT.out, HXY.out]; have hs1 := HS1.out; (try rw [HPV.out] at hs1); rw [HPV.out]; simp [pick, hs1, outOf], HA.out.call (HB5.out.trans (HB8.out.mono HB5.out.size)), HOK.out⟩
          case measure => have := HKN.out; simp [intOf] <;> omega
        · skip
          have hrok : Rok V0 r := by
            have q := HSTO.out.2.2 l.n
            rw [← HYS.out, hpv] at q
            exact pt_rok q
          try rw [hpn] at HCA
          try rw [hpn] at HCO
          try rw [hpn] at HE1
          try rw [hpn] at HE2
          have HPV := Lib.hid hpv
          clear hpn hpv
          go_wp2_with (first | ((with_reducible show wpList _ _ _ (Oper.mk _ (Op.alloc _) _ _ _ _ :: _) _ _); (refine wpList_alloc_row rfl 45 rfl #[.int .i64 0, .slice none 0 0] Try.z45 gx HX.out ?_; refine wpList_atE HWz.out ?_)) | ((with_reducible show wpList _ _ _ (Oper.mk _ (Op.store _ _ _) _ _ _ _ :: _) _ _); (refine wpList_put_arr rfl 45 (.tmp 14) (.tmp 45) rfl rfl gx 45 _ #[.int .i64 l.n, rvv l.r] rfl rfl HRz.out Try.n45 rfl HONE.out ?_; refine wpList_atE HW5.out ?_)))
          go_quiet (first | (go_at_call 52; exact Calls.quiet_of_same (HCA.out _)) | (go_at_call 52; exact Calls.quiet_of_same (HCO.out _)))
          have HBq := Lib.hid (below_drewN (Below.refl W5.heap.size W5) nq)
          clear i1 j1 c0 c1 k50
          go_wp2_with fail
          refine (HE1.out _ HBq.out).mono ?_
          rintro e w7 ⟨rfl, hb⟩
          have HB7 := Lib.hid (bel_tr HBq.out hb)
          clear hb
          go_wp2_with fail
          refine (HE1.out w7 HB7.out).mono ?_
          rintro e w8 ⟨rfl, hb⟩
          have HB8 := Lib.hid (bel_tr HB7.out hb)
          clear hb
          go_wp2_with fail
          have HAW := Lib.hid (HA.out.call (HB5.out.trans (HB8.out.mono HB5.out.size)))
          have k1 : w8.cell? ⟨gv, 1, none⟩ = some u := HAW.out.2.1.cell 1
          have k1b : ∀ (o : Obj), (w8.alloc o).cell? ⟨gv, 1, none⟩ = some u := fun o => ((Below.refl w8.heap.size w8).alloc (Nat.le_refl _) o |>.cell (p := ⟨gv, 1, none⟩) HAW.out.2.1.lt).trans k1
          have kx : w8.cell? ⟨gx, 0, none⟩ = some (.int .i64 l.n) := (HR5.out.below HB8.out HR5.out.lt).cell 0
          have kr : w8.cell? ⟨gr, or, none⟩ = some (rvv r) := ((HB8.out).cell (p := ⟨gr, or, none⟩) hgr).trans hcr
          have HROK := Lib.hid hrok
          clear hcr hgr hrok
          go_region_law (refine step_pushK rfl (.tmp 86) (.tmp 93) 36 45 rfl _ 2 32 Try.underlying36 Try.info45 rfl (by decide) (by decide) V0.heap.size u A.length (A.flatMap lnc) rfl w8.drew _ (lnc (Ln.mk l.n r)) rfl (one_lnc _) rfl (HAW.out.drewN 1).1 (HAW.out.drewN 1).2.2.size w8.heap.size rfl rfl (by have := HAL.out; omega) (fun ge ce w' hv' hg => ?_); obtain ⟨hrow, hAF⟩ := AccG.push (HAW.out.drewN 1) HG.out.2.1 ((Below.refl _ _).alloc (Nat.le_refl _) _) hv' hg 1 rfl; have z3 : w'.cell? ⟨gv, 1, none⟩ = some u := hrow.cell 1; have z4 := hrow.frozen 1; have HAF := Lib.hid hAF; clear hAF hrow hv' hg)
          all_goals
            go_wp2_with fail
            go_roundw
            case rel => exact ⟨k + 1, _, A ++ [Ln.mk l.n r], HKN.out, by go_num, rfl, by rw [HNEXT.out, HXY.out]; have hs1 := HS1.out; (try rw [HPV.out] at hs1); rw [HPV.out]; simp [pick, hs1, outOf], by rw [List.length_append, ← fl_snoc]; exact HAF.out, fun l' hl' => by
              rcases List.mem_append.1 hl' with q | q
              · exact HOK.out l' q
              · rw [List.mem_singleton.1 q]; exact HROK.out⟩
            case measure => have := HKN.out; simp [intOf] <;> omega
      | false =>
        have HS1 := Lib.hid he1
        rw [he1] at HE1
        have HS2 := HCF.out
        rw [he1] at HS2
        have HS2 := HS2.resolve_left (by decide)
        rw [HS2] at HE2
        clear HS2
        clear he1
        rcases HPA'.out with ⟨hpn, hpv⟩ | ⟨gr, or, r, hpn, hpv, hgr, hcr, _⟩
        · skip
          try rw [hpn] at HCA
          try rw [hpn] at HCO
          try rw [hpn] at HE1
          try rw [hpn] at HE2
          have HPV := Lib.hid hpv
          clear hpn hpv
          go_wp2_with (first | ((with_reducible show wpList _ _ _ (Oper.mk _ (Op.alloc _) _ _ _ _ :: _) _ _); (refine wpList_alloc_row rfl 45 rfl #[.int .i64 0, .slice none 0 0] Try.z45 gx HX.out ?_; refine wpList_atE HWz.out ?_)) | ((with_reducible show wpList _ _ _ (Oper.mk _ (Op.store _ _ _) _ _ _ _ :: _) _ _); (refine wpList_put_arr rfl 45 (.tmp 14) (.tmp 45) rfl rfl gx 45 _ #[.int .i64 l.n, rvv l.r] rfl rfl HRz.out Try.n45 rfl HONE.out ?_; refine wpList_atE HW5.out ?_)))
          go_quiet (first | (go_at_call 52; exact Calls.quiet_of_same (HCA.out _)) | (go_at_call 52; exact Calls.quiet_of_same (HCO.out _)))
          have HBq := Lib.hid (below_drewN (Below.refl W5.heap.size W5) nq)
          clear i1 j1 c0 c1 k50
          go_wp2_with fail
          refine (HE1.out _ HBq.out).mono ?_
          rintro e w7 ⟨rfl, hb⟩
          have HB7 := Lib.hid (bel_tr HBq.out hb)
          clear hb
          go_wp2_with fail
          refine (HE2.out w7 HB7.out).mono ?_
          rintro e w8 ⟨rfl, hb⟩
          have HB8 := Lib.hid (bel_tr HB7.out hb)
          clear hb
          go_wp2_with fail
          refine (HE1.out w8 HB8.out).mono ?_
          rintro e w9 ⟨rfl, hb⟩
          have HB9 := Lib.hid (bel_tr HB8.out hb)
          clear hb
          go_wp2_with fail
          go_roundw
          case rel => exact ⟨k + 1, _, A, HKN.out, by go_num, rfl, by rw [HNEXT.out, HXY.out]; have hs1 := HS1.out; (try rw [HPV.out] at hs1); rw [HPV.out]; simp [pick, hs1, outOf], HA.out.call (HB5.out.trans (HB9.out.mono HB5.out.size)), HOK.out⟩
          case measure => have := HKN.out; simp [intOf] <;> omega
        · skip
          have hrok : Rok V0 r := by
            have q := HSTA.out.2.2 l.n
            rw [← HXS.out, hpv] at q
            exact pt_rok q
          try rw [hpn] at HCA
          try rw [hpn] at HCO
          try rw [hpn] at HE1
          try rw [hpn] at HE2
          have HPV := Lib.hid hpv
          clear hpn hpv
          go_wp2_with (first | ((with_reducible show wpList _ _ _ (Oper.mk _ (Op.alloc _) _ _ _ _ :: _) _ _); (refine wpList_alloc_row rfl 45 rfl #[.int .i64 0, .slice none 0 0] Try.z45 gx HX.out ?_; refine wpList_atE HWz.out ?_)) | ((with_reducible show wpList _ _ _ (Oper.mk _ (Op.store _ _ _) _ _ _ _ :: _) _ _); (refine wpList_put_arr rfl 45 (.tmp 14) (.tmp 45) rfl rfl gx 45 _ #[.int .i64 l.n, rvv l.r] rfl rfl HRz.out Try.n45 rfl HONE.out ?_; refine wpList_atE HW5.out ?_)))
          go_quiet (first | (go_at_call 52; exact Calls.quiet_of_same (HCA.out _)) | (go_at_call 52; exact Calls.quiet_of_same (HCO.out _)))
          have HBq := Lib.hid (below_drewN (Below.refl W5.heap.size W5) nq)
          clear i1 j1 c0 c1 k50
          go_wp2_with fail
          refine (HE1.out _ HBq.out).mono ?_
          rintro e w7 ⟨rfl, hb⟩
          have HB7 := Lib.hid (bel_tr HBq.out hb)
          clear hb
          go_wp2_with fail
          refine (HE2.out w7 HB7.out).mono ?_
          rintro e w8 ⟨rfl, hb⟩
          have HB8 := Lib.hid (bel_tr HB7.out hb)
          clear hb
          go_wp2_with fail
          refine (HE1.out w8 HB8.out).mono ?_
          rintro e w9 ⟨rfl, hb⟩
          have HB9 := Lib.hid (bel_tr HB8.out hb)
          clear hb
          go_wp2_with fail
          have HAW := Lib.hid (HA.out.call (HB5.out.trans (HB9.out.mono HB5.out.size)))
          have k1 : w9.cell? ⟨gv, 1, none⟩ = some u := HAW.out.2.1.cell 1
          have k1b : ∀ (o : Obj), (w9.alloc o).cell? ⟨gv, 1, none⟩ = some u := fun o => ((Below.refl w9.heap.size w9).alloc (Nat.le_refl _) o |>.cell (p := ⟨gv, 1, none⟩) HAW.out.2.1.lt).trans k1
          have kx : w9.cell? ⟨gx, 0, none⟩ = some (.int .i64 l.n) := (HR5.out.below HB9.out HR5.out.lt).cell 0
          have kr : w9.cell? ⟨gr, or, none⟩ = some (rvv r) := ((HB9.out).cell (p := ⟨gr, or, none⟩) hgr).trans hcr
          have HROK := Lib.hid hrok
          clear hcr hgr hrok
          go_region_law (refine step_pushK rfl (.tmp 86) (.tmp 93) 36 45 rfl _ 2 32 Try.underlying36 Try.info45 rfl (by decide) (by decide) V0.heap.size u A.length (A.flatMap lnc) rfl w9.drew _ (lnc (Ln.mk l.n r)) rfl (one_lnc _) rfl (HAW.out.drewN 1).1 (HAW.out.drewN 1).2.2.size w9.heap.size rfl rfl (by have := HAL.out; omega) (fun ge ce w' hv' hg => ?_); obtain ⟨hrow, hAF⟩ := AccG.push (HAW.out.drewN 1) HG.out.2.1 ((Below.refl _ _).alloc (Nat.le_refl _) _) hv' hg 1 rfl; have z3 : w'.cell? ⟨gv, 1, none⟩ = some u := hrow.cell 1; have z4 := hrow.frozen 1; have HAF := Lib.hid hAF; clear hAF hrow hv' hg)
          all_goals
            go_wp2_with fail
            go_roundw
            case rel => exact ⟨k + 1, _, A ++ [Ln.mk l.n r], HKN.out, by go_num, rfl, by rw [HNEXT.out, HXY.out]; have hs1 := HS1.out; (try rw [HPV.out] at hs1); rw [HPV.out]; simp [pick, hs1, outOf], by rw [List.length_append, ← fl_snoc]; exact HAF.out, fun l' hl' => by
              rcases List.mem_append.1 hl' with q | q
              · exact HOK.out l' q
              · rw [List.mem_singleton.1 q]; exact HROK.out⟩
            case measure => have := HKN.out; simp [intOf] <;> omega
    · have ki : ¬ (k : Int) < (n1 : Int) := by omega
      have HAE := Lib.hid (show A = L.flatMap (mergeF La Lo) from by rw [hAk, List.take_of_length_le (by have := HN1.out; omega)])
      have HBw := Lib.hid (bel_tr HB.out HB3r.out)
      obtain ⟨k0, k1, k2, k3, k4, k5⟩ := HKEEP.out wr HB3r.out
      have k8 : wr.cell? ⟨gv, 1, none⟩ = some u := hA.2.1.cell 1
      have HFAi := Lib.hid (fun X (h : Below wr.heap.size wr X) => HFA.out X (bel_tr HBw.out h))
      have HD2 := Lib.hid (below_drewN (Below.refl wr.heap.size wr) 1)
      have HALn := Lib.hid (show A.length ≤ 1000 from by rw [HAE.out]; have := mergeF_len La Lo L; have := HLEN.out.1; omega)
      clear hA hok hAk hk hkn BA k4 k5
      go_upto_region 20 with fail
      try simp only [Act.put, List.setIfInBounds_toArray, List.set_cons_zero, List.set_cons_succ]
      go_region_law (first | (refine step_pushL rfl (.tmp 103) (.tmp 106) 36 45 rfl _ 32 Try.underlying36 Try.info45 rfl (by decide) (by decide) length_lnc one_lnc V0.heap.size u A.length (A.flatMap lnc) rfl HAf.out.1 HAf.out.2.2.size pf mf cf (La.drop kf) rfl HMF.out HFR.out.1.1.ls (by have := HALn.out; have := HLEN.out.2.1; have := HMF.out; rw [List.length_drop] at this; omega) (fun v' w' hv' hg hloc => ?_); obtain ⟨av, cv, ev⟩ := owns_form hv'; subst ev; obtain ⟨hrow, hAF⟩ := AccG.push HAf.out HG.out.2.1 (Below.refl _ _) hv' hg 1 rfl; have z3 : w'.cell? ⟨gv, 1, none⟩ = some u := hrow.cell 1; have z4 := hrow.frozen 1; have HAF := Lib.hid hAF; clear hAF hrow hv' hg hloc) | (go_simp; go_at_call 35; refine (HFAi.out (wr.drewN 1) HD2.out).mono ?_; rintro e wf ⟨⟨kf, pf, cf, rfl, hfr, hkf, hf1, hf2⟩, hbf⟩; have HBf := Lib.hid (HD2.out.trans hbf); have HFR := Lib.hid (show Lns wf pf (La.drop kf) ∧ La.drop kf = freshL N La from ⟨hfr, drop_fresh N La kf hf1 hf2⟩); have HAf := Lib.hid (HA.out.call HBf.out); have k9 : wf.cell? ⟨gv, 1, none⟩ = some u := HAf.out.2.1.cell 1; obtain ⟨mf, hmf⟩ : ∃ m, m = (La.drop kf).length := ⟨_, rfl⟩; rw [← hmf]; have HMF := Lib.hid hmf; clear hfr hkf hf1 hf2 hbf hmf))
      all_goals
        obtain ⟨nt, hnt⟩ : ∃ m, m = A.length + mf := ⟨_, rfl⟩
        rw [← hnt] at HAF ⊢
        have HAG : Hid (AccG V0 gv 38 (mkT Na) 45 2 (.slice av nt cv) nt (A.flatMap lnc ++ (La.drop kf).flatMap lnc) (w'.setCell ⟨gv, 1, none⟩ (.slice av nt cv))) := HAF
        obtain ⟨w8, hw8⟩ : ∃ x, x = w'.setCell ⟨gv, 1, none⟩ (.slice av nt cv) := ⟨_, rfl⟩
        rw [← hw8] at HAG
        try rw [← hw8]
        have hnt4 : nt ≤ 4000 := by have := HALn.out; have := HLEN.out.2.1; have := HMF.out; rw [List.length_drop] at this; omega
        have HNT := Lib.hid hnt
        have HB38 := Lib.hid (show Below W3.heap.size W3 w8 from HBV.out.trans ((HAG.out.bel (B := gv) (Nat.le_refl _) (Nat.le_of_lt HG.out.2.1)).mono HG.out.2.2))
        clear HAF hw8 hnt z3 z4 k8 k9 k0 k1 k2 k3
        obtain ⟨k0, k1, k2, k3, k4, k5⟩ := HKEEP.out w8 HB38.out
        have HC3 := Lib.hid (HFO.out w8 (bel_tr HB.out HB38.out))
        go_wp2_with fail
        refine HC3.out.mono ?_
        rintro e w9 ⟨⟨ko, po, co, rfl, hfr, hko, hf1, hf2⟩, hb9⟩
        have hnil : Lo.drop ko = [] := by rw [drop_fresh N Lo ko hf1 hf2]; exact fresh_nil HO.out
        rw [hnil, List.length_nil]
        have HA9 := Lib.hid (HAG.out.call hb9)
        have k90 : w9.cell? ⟨gv, 0, none⟩ = some (.int .i64 Na) := HA9.out.2.1.cell 0
        have k91 : w9.cell? ⟨gv, 1, none⟩ = some (.slice av nt cv) := HA9.out.2.1.cell 1
        have HB39 := Lib.hid (bel_tr HB38.out hb9)
        have HR9 := Lib.hid (HR.out.2.2.2.below HB39.out HR.out.2.2.2.lt)
        clear hfr hko hf1 hf2 hb9 hnil k0 k1 k2 k3 k4 k5
        go_wp2_with fail
        go_loopw [113] (fun iv wx => iv = .int .i64 0 ∧ wx = w9) (fun _ _ => 0)
        case atStart => exact ⟨rfl, rfl⟩
        case round =>
          obtain ⟨rfl, hwx⟩ := hrel
          obtain rfl := hwx.symm
          have hLn : (A ++ La.drop kf).length = nt := by rw [List.length_append, HNT.out, HMF.out]
          have hown : w9.ownsRow V0.heap.size 45 2 (.slice av nt cv) (A ++ La.drop kf).length ((A ++ La.drop kf).flatMap lnc) := by rw [hLn, List.flatMap_append]; exact HA9.out.1
          obtain ⟨ax, cx, ev, hcap, hlt⟩ := lns_put hown (show g + 1 + 1 + 1 < V0.heap.size by have := HG.out; omega) #[.int .i64 Na, .slice av nt cv]
          have hok : ∀ l ∈ A ++ La.drop kf, Rok (w9.setRow (g + 1 + 1 + 1) #[.int .i64 Na, .slice av nt cv]) l.r := fun l hl => by
            refine Rok.put ?_ HR9.out (by decide) _
            rcases List.mem_append.1 hl with q | q
            · exact HA9.out.rok HRV.out (by decide) (HOK.out l q)
            · exact (HLA.out.bel (bel_tr HB.out HB39.out)).2 l (List.drop_subset _ _ q)
          have HFIN := Lib.hid (show Tb (w9.setRow (g + 1 + 1 + 1) #[.int .i64 Na, .slice av nt cv]) (.agg #[.int .i64 Na, .slice av nt cv]) Na (mergeR N L La Lo) ∧ Below w.heap.size w (w9.setRow (g + 1 + 1 + 1) #[.int .i64 Na, .slice av nt cv]) from by
            have e : mergeR N L La Lo = A ++ La.drop kf := by rw [mergeR, ← HAE.out, ← HFR.out.2]
            rw [e]
            exact ⟨⟨ax, cx, by rw [ev], hcap, hlt, hok⟩, below_putRow (bel_tr HB.out HB39.out) (by have := EG.out; omega) _⟩)
          clear hLn hown ev hcap hlt hok
          go_wp2_with (first | ((with_reducible show wpList _ _ _ (Oper.mk _ (Op.load _ _) _ _ _ _ :: _) _ _); refine wpList_load_row rfl 38 (.tmp 12) rfl gv rfl 38 #[.int .i64 Na, .slice av nt cv] (0, 0) _ HA9.out.2.1 Try.underlying38 rfl Try.n38 ?_) | ((with_reducible show wpList _ _ _ (Oper.mk _ (Op.store _ _ _) _ _ _ _ :: _) _ _); refine wpList_put_arr rfl 38 (.tmp 6) (.tmp 142) rfl rfl (g + 1 + 1 + 1) 38 _ #[.int .i64 Na, .slice av nt cv] rfl rfl HR9.out Try.n38 rfl (by simp [Value.oneCell']) ?_))
          try simp only [Exit.inBlock, Exit.then]
          refine bodyPost_ret (results_cell_slot2 (p := 6) (q := 7) (r := 8) (ty := 38) rfl _ _ (g + 1 + 1 + 1) 38 #[.int .i64 Na, .slice av nt cv] (0, 0) _ rfl (Row.setRow HR9.out _) Try.underlying38 rfl Try.n38) rfl ?_
          exact ⟨⟨_, rfl, HFIN.out.1⟩, HFIN.out.2⟩
end Go.Proofs.Ytkonoojmhjinpaa
