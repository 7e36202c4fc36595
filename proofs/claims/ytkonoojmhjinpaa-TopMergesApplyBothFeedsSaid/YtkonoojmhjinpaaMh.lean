/- Contracts: merge's states. Contracts: merge's states, walked. Contracts: merge's equal, the closures of fits and fresh, IndexFunc. Contracts: IndexFunc, ContainsFunc, fits, fresh. Contracts: merge's fits and fresh. -/
import Derived.Test.YtkonoojmhjinpaaFi
import Derived.Maps.OwnSet
import Derived.Maps.OwnOps
import Derived.Maps.Views
import Derived.Laws.EntriesVeiled
set_option linter.all false
namespace Go.Proofs.Ytkonoojmhjinpaa
open Go.RowKit Go.Fen Go.Maps
set_option linter.unusedVariables false
set_option maxHeartbeats 4000000

theorem Try.z115 : (Try.prog.info? 115).bind (·.zero) = some (.map none) := by kernel_rfl
theorem zero99 (w : World) : (zeroValue 99).run Try.prog w = .ok (.pointer none) w := by kernel_rfl
theorem law2 : Keyed Try.prog 2 := int_keyed Try.underlying2
/-- how an element reads: as itself -/
def RV (v : Value) : Option (DataW Value × List MemPlace) := some (.held v, [])
/-- the row of a number in a list of lines -/
def findS (L : List Ln) (n : Int) : Option Rv := (L.find? (·.n == n)).map (·.r)
/-- block b holds a map from numbers to pointers -/
def MapF (w : World) (b k : Nat) (f : Int → Option Addr) : Prop := ∃ D, w.ownsMap Try.prog 2 RV b k D ∧ ∀ n : Int, D.atKey (.int .i64 n) (.held (.pointer none)) = .held (.pointer (f n))
theorem MapF.block {w : World} {b k : Nat} {f : Int → Option Addr} (h : MapF w b k f) : ∃ es clock, w.heap[b]? = some (Obj.map es clock) := by
  obtain ⟨D, ⟨es, clock, hb, _⟩, _⟩ := h
  exact ⟨es, clock, hb⟩
theorem MapF.lt {w : World} {b k : Nat} {f : Int → Option Addr} (h : MapF w b k f) : b < w.heap.size := by
  obtain ⟨es, clock, hb⟩ := h.block
  exact (Array.getElem?_eq_some_iff.1 hb).1
theorem MapF.at {w w' : World} {b k : Nat} {f : Int → Option Addr} (h : MapF w b k f) (he : w'.heap[b]? = w.heap[b]?) : MapF w' b k f := by
  obtain ⟨D, ⟨es, clock, hb, hF, hs, hD⟩, hf⟩ := h
  exact ⟨D, ⟨es, clock, he.trans hb, hF, hs, hD⟩, hf⟩
/-- a function that looks up the states of a table -/
def StF (w : World) (v : Value) (L : List Ln) : Prop := ∃ gm b k f, v = .func (.func 52) #[] #[.pointer (some ⟨gm, 0, none⟩)] ∧ Row w gm 115 #[.map (some b)] ∧ MapF w b k f ∧ ∀ n, Pt w (f n) (findS L n)
theorem StF.bel {w w' : World} {v : Value} {L : List Ln} (h : StF w v L) (hb : Below w.heap.size w w') : StF w' v L := by
  obtain ⟨gm, b, k, f, e, hr, hm, hp⟩ := h
  exact ⟨gm, b, k, f, e, hr.below hb hr.lt, hm.at (hb.block b hm.lt), fun n => (hp n).bel hb⟩
theorem StF.but {w w' : World} {v : Value} {L : List Ln} {g : Nat} {t : TypeId} {z : Array Value} (h : StF w v L) (hr : Row w g t z) (h1 : t ≠ 45) (h2 : t ≠ 71) (h3 : t ≠ 58) (h4 : t ≠ 115) (hs : w.heap.size ≤ w'.heap.size) (hw : ∀ k, k < w.heap.size → k ≠ g → w'.heap[k]? = w.heap[k]?) : StF w' v L := by
  obtain ⟨gm, b, k, f, e, hg, hm, hp⟩ := h
  refine ⟨gm, b, k, f, e, ?_, ?_, fun n => (hp n).but hr h1 h2 h3 hs hw⟩
  · refine (hw gm hg.lt ?_).trans hg
    intro e
    subst e
    have q : w.heap[gm]? = some (Obj.cells z t) := hr
    have q2 : w.heap[gm]? = some (Obj.cells #[.map (some b)] 115) := hg
    rw [q2] at q
    injection q with q
    injection q with _ q3 _
    exact h4 q3.symm
  · refine hm.at (hw b hm.lt ?_)
    intro e
    subst e
    obtain ⟨es, clock, hb⟩ := hm.block
    have q : w.heap[b]? = some (Obj.cells z t) := hr
    rw [hb] at q
    cases q
theorem MapF.look {w : World} {b k : Nat} {f : Int → Option Addr} (h : MapF w b k f) (n : Int) (h0 : 0 ≤ n) (h1 : n < 1000000) : (Instr.lookup 115 (.map (some b)) (.int .i64 n) false).run Try.prog w = .ok (.pointer (f n)) w := by
  obtain ⟨D, hown, hf⟩ := h
  obtain ⟨v, ps, hrun, hv⟩ := hown.lookup law2 Try.underlying115 (zero99 w) (zd := .held (.pointer none)) (zp := []) rfl (keyOf_int_mk Try.underlying2 (WalkArith.wf_i64 (n := n) (by omega)))
  rw [hf n] at hv
  simp only [RV, Option.some.injEq, Prod.mk.injEq, DataW.held.injEq] at hv
  rw [← hv.1]
  exact hrun
theorem state_any (gm b k : Nat) (f : Int → Option Addr) (n : Int) (w : World) (hg : Row w gm 115 #[.map (some b)]) (hm : MapF w b k f) (h0 : 0 ≤ n) (h1 : n < 1000000) : Calls Try.prog 52 #[.int .i64 n, .pointer (some ⟨gm, 0, none⟩)] w fun e w' => e = .returned (.pointer (f n)) ∧ w' = w := by
  have k0 : w.cell? ⟨gm, 0, none⟩ = some (.map (some b)) := hg.cell 0
  have hl := hm.look n h0 h1
  clear hg hm
  go_enter Try.func52, Try.ntmps52
  go_wp2_with fail
  first | go_ret | ((try simp only [Exit.inBlock, Exit.then]); go_ret)
  exact ⟨rfl, rfl⟩
end Go.Proofs.Ytkonoojmhjinpaa

set_option linter.all false
namespace Go.Proofs.Ytkonoojmhjinpaa
open Go.RowKit Go.Fen Go.Maps
set_option linter.unusedVariables false
set_option maxHeartbeats 4000000

theorem find_fresh {L : List Ln} {n : Int} (h : ∀ l ∈ L, l.n ≠ n) : L.find? (·.n == n) = none := by
  rw [List.find?_eq_none]
  intro l hl
  simpa using h l hl
theorem findS_take {N : Int} {L : List Ln} (hR : Rising N L) (k : Nat) (l : Ln) (hl : L[k]? = some l) (n : Int) : findS (L.take (k + 1)) n = if n = l.n then some l.r else findS (L.take k) n := by
  unfold findS
  rw [List.take_add_one, hl, List.find?_append]
  by_cases hn : n = l.n
  · rw [if_pos hn, find_fresh]
    · simp [hn]
    · intro x hx
      obtain ⟨j, hj, e⟩ := List.getElem_of_mem hx
      have hjk : j < k := by have := hj; rw [List.length_take] at this; omega
      have : L[j]? = some x := by rw [← e, List.getElem_take]; exact List.getElem?_eq_getElem _
      have := hR.lt this hl hjk
      omega
  · rw [if_neg hn]
    have e : (l.n == n) = false := beq_eq_false_iff_ne.2 (fun h => hn h.symm)
    have e2 : (Option.some l).toList.find? (fun x => x.n == n) = none := by simp [e]
    rw [e2]
    simp
theorem keeps_map {w w' : World} {b : Nat} (hg : w.grownBy w' (some b)) (hb : ∃ es clock, w.heap[b]? = some (Obj.map es clock)) (T : TypeId) : Keeps w w' T := by
  refine ⟨hg.size, fun j cs fr hj => hg.block j (Array.getElem?_eq_some_iff.1 hj).1 ?_⟩
  intro e
  injection e with e
  subst e
  obtain ⟨es, clock, h⟩ := hb
  rw [h] at hj
  cases hj
/-- one number's pointer turns -/
def updF (f : Int → Option Addr) (n : Int) (p : Option Addr) (m : Int) : Option Addr := if m = n then p else f m
theorem updF_same (f : Int → Option Addr) (n : Int) (p : Option Addr) : updF f n p n = p := if_pos rfl
theorem updF_other (f : Int → Option Addr) {n m : Int} (p : Option Addr) (h : m ≠ n) : updF f n p m = f m := if_neg h
/-- the pointer to a line's row -/
theorem ln_pt {w : World} {gl ol k : Nat} {L : List Ln} {x : Ln} (hE : Lns w (some ⟨gl, ol, none⟩) L) (hx : L[k]? = some x) : Pt w (some ⟨gl, ol + k * 2 + 1, none⟩) (some x.r) := by
  rcases hE.1 with h0 | ⟨g, o, ea, hg, hc, cs, fr, ht⟩
  · have := (List.getElem?_eq_some_iff.1 hx).1; omega
  · injection ea with ea
    injection ea with e1 e2
    subst e1 e2
    exact .inr ⟨gl, _, x.r, rfl, rfl, hg, hc k x hx 1 _ rfl, hE.2 x (List.mem_of_getElem? hx), cs, 45, fr, ht, .inl rfl⟩
set_option maxRecDepth 20000 in
theorem states_any (v : Value) (N : Int) (L : List Ln) (w : World) (hT : Tb w v N L) (hR : Rising N L) (h1 : N ≤ 1000000) (hL : L.length ≤ 1000) : Calls Try.prog 33 #[v] w fun e w' => ∃ u, e = .returned u ∧ StF w' u L ∧ Below w.heap.size w w' := by
  obtain ⟨a, c, rfl, hcap, hLs⟩ := hT
  obtain ⟨n, hn⟩ : ∃ n, n = L.length := ⟨_, rfl⟩
  rw [← hn] at hL ⊢
  obtain ⟨g, eg⟩ : ∃ g, g = w.heap.size := ⟨_, rfl⟩
  obtain ⟨W0, hW0⟩ : ∃ W, W = w.alloc (.cells #[.int .i64 N, .slice a n c] 38) := ⟨_, rfl⟩
  obtain ⟨b, hbb⟩ : ∃ x, x = W0.heap.size := ⟨_, rfl⟩
  obtain ⟨W1, hW1⟩ : ∃ W, W = W0.alloc (.map #[] 0) := ⟨_, rfl⟩
  obtain ⟨gm, hgm⟩ : ∃ x, x = W1.heap.size := ⟨_, rfl⟩
  obtain ⟨W2, hW2⟩ : ∃ W, W = W1.alloc (.cells #[.map none] 115) := ⟨_, rfl⟩
  obtain ⟨W3, hW3⟩ : ∃ W, W = W2.setCell ⟨gm, 0, none⟩ (.map (some b)) := ⟨_, rfl⟩
  have b0 : Below w.heap.size w W0 := by rw [hW0]; exact (Below.refl _ _).alloc (Nat.le_refl _) _
  have b1 : Below W0.heap.size W0 W1 := by rw [hW1]; exact (Below.refl _ _).alloc (Nat.le_refl _) _
  have b2 : Below W1.heap.size W1 W2 := by rw [hW2]; exact (Below.refl _ _).alloc (Nat.le_refl _) _
  have b3 : Below gm W2 W3 := by rw [hW3]; exact (Below.refl gm W2).setCell (show gm ≤ (⟨gm, 0, none⟩ : Addr).block from Nat.le_refl _) _
  have R0 : Row W0 g 38 #[.int .i64 N, .slice a n c] := by rw [hW0, eg]; exact Row.new w 38 _
  have M1 : MapF W1 b 0 (fun _ => none) := ⟨.map [], by rw [hW1, hbb]; exact World.ownsMap_made W0 _ _ _, fun n => rfl⟩
  have RM : Row W2 gm 115 #[.map none] := by rw [hW2]; exact Row.new' 115 _ hgm
  have RM3 : Row W3 gm 115 #[.map (some b)] := by rw [hW3]; exact RM.set 0 _
  have bgm : b < gm := by rw [hgm]; exact M1.lt
  have ggm : g < gm := by rw [hgm]; exact Nat.lt_of_lt_of_le R0.lt b1.size
  have M3 : MapF W3 b 0 (fun _ => none) := (M1.at (b2.block b M1.lt)).at (b3.block b bgm)
  have R03 : Row W3 g 38 #[.int .i64 N, .slice a n c] := ((R0.below b1 R0.lt).below b2 (by rw [← hgm]; exact ggm)).below b3 ggm
  have hgb : w.heap.size ≤ b := by rw [hbb]; exact b0.size
  have f2 : W2.frozen? ⟨gm, 0, none⟩ = false := RM.frozen 0
  have c2 : W2.cell? ⟨gm, 0, none⟩ = some (.map none) := RM.cell 0
  have HB3 := Lib.hid (show Below w.heap.size w W3 from (bel_tr (bel_tr b0 b1) b2).trans (b3.mono (by omega)))
  have HLS := Lib.hid (hLs.bel HB3.out)
  have H3 := Lib.hid (show Row W3 g 38 #[.int .i64 N, .slice a n c] ∧ Row W3 gm 115 #[.map (some b)] ∧ MapF W3 b 0 (fun _ => none) ∧ b < gm ∧ g < b ∧ w.heap.size ≤ b from ⟨R03, RM3, M3, bgm, by rw [hbb]; exact R0.lt, hgb⟩)
  have HW0 := Lib.hid hW0
  have HW1 := Lib.hid hW1
  have HW2 := Lib.hid hW2
  have HW3 := Lib.hid hW3
  have EG := Lib.hid eg
  have EB := Lib.hid hbb
  have EM := Lib.hid hgm
  have HN := Lib.hid hn
  have HRI := Lib.hid hR
  have HN1 := Lib.hid h1
  have k31 : W3.cell? ⟨g, 1, none⟩ = some (.slice a n c) := R03.cell 1
  clear hW0 hW1 hW2 hW3 eg hbb hgm hn hR h1 hLs hcap b0 b1 b2 b3 R0 M1 RM RM3 bgm ggm M3 R03 hgb
  have hmm := fun (w : World) => @run_makeMap Try.prog 115 w
  go_enter Try.func33, Try.ntmps33
  go_upto_region 2 with (first | ((with_reducible show wpList _ _ _ (Oper.mk _ (Op.box _ _) _ _ _ _ :: _) _ _); (refine wpList_box_row rfl 38 (.tmp 0) rfl _ rfl g EG.out ?_; refine wpList_atE HW0.out ?_)) | ((with_reducible show wpList _ _ _ (Oper.mk _ (Op.alloc _) _ _ _ _ :: _) _ _); (rw [← EB.out]; refine wpList_atE HW1.out ?_; refine wpList_alloc_val rfl 115 rfl (.map none) Try.z115 gm EM.out ?_; refine wpList_atE HW2.out ?_)))
  try simp only [Act.put, List.setIfInBounds_toArray, List.set_cons_zero, List.set_cons_succ]
  rw [← HW3.out]
  clear f2 c2
  go_wp2_with fail
  clear k31
  go_loopw [9] (fun iv wr => ∃ (k : Nat) (f : Int → Option Addr), k ≤ n ∧ iv = .int .i64 k ∧ MapF wr b k f ∧ W3.grownBy wr (some b) ∧ ∀ m, Pt W3 (f m) (findS (L.take k) m)) (fun iv _ => n - (intOf iv).toNat)
  case atStart => exact ⟨0, _, by omega, rfl, H3.out.2.2.1, grown_refl _ _, fun m => .inl ⟨rfl, rfl⟩⟩
  case round =>
    obtain ⟨k, f, hk, rfl, hM, hg, hP⟩ := hrel
    have HM := Lib.hid hM
    have HG := Lib.hid hg
    have HP := Lib.hid hP
    have R0w : Row wr g 38 #[.int .i64 N, .slice a n c] := H3.out.1.grown hg (by intro e; injection e with e; have := H3.out.2.2.2.2.1; omega)
    have RMw : Row wr gm 115 #[.map (some b)] := H3.out.2.1.grown hg (by intro e; injection e with e; have := H3.out.2.2.2.1; omega)
    have k31 : wr.cell? ⟨g, 1, none⟩ = some (.slice a n c) := R0w.cell 1
    have k32 : wr.cell? ⟨gm, 0, none⟩ = some (.map (some b)) := RMw.cell 0
    have HK45 := Lib.hid (keeps_map hg H3.out.2.2.1.block 45)
    have HK71 := Lib.hid (keeps_map hg H3.out.2.2.1.block 71)
    have HK58 := Lib.hid (keeps_map hg H3.out.2.2.1.block 58)
    by_cases hkn : k < n
    · have ki : (k : Int) < (n : Int) := by omega
      have HLW := HLS.out.keep HK45.out HK58.out
      obtain ⟨gl, ol, rfl, hgl, hc⟩ := HLW.1.form (by rw [← HN.out]; omega)
      obtain ⟨l, hl⟩ : ∃ f, L[k]? = some f := ⟨_, List.getElem?_eq_getElem (by rw [← HN.out]; omega)⟩
      have hlb := HRI.out.mem hl
      have HPL := Lib.hid (ln_pt HLS.out hl)
      have HF := Lib.hid (findS_take HRI.out k l hl)
      have c0 : wr.cell? ⟨gl, ol + k * 2, none⟩ = some (.int .i64 l.n) := by have := hc k l hl 0 _ rfl; rw [Nat.add_zero] at this; exact this
      have HKN := Lib.hid hkn
      have HLB := Lib.hid (show 0 ≤ l.n ∧ l.n < 1000000 from ⟨hlb.1, by have := HN1.out; omega⟩)
      obtain ⟨D, hown, hf⟩ := hM
      have HOWN := Lib.hid (show (wr.drewN 1).ownsMap Try.prog 2 RV b k D from hown)
      have HIM := Lib.hid hown.isMap
      have HFD := Lib.hid hf
      clear hl hlb hc hgl HLW hg hP R0w RMw hown hf hkn hk
      go_upto_region 5 with fail
      go_still_tail 12, (by kernel_rfl)
      change wpList _ _ _ _ _ wr.drew
      rw [show wr.drew = wr.drewN 1 from rfl]
      go_wp2_with (at_mapUpdate; refine wpList_mapUpdate_own _ rfl _ _ _ 115 rfl 2 99 law2 Try.underlying115 RV b k D rfl HOWN.out (by unfold maxLen; omega) _ _ (.int .i64 l.n) rfl rfl (keyOf_int_mk Try.underlying2 (WalkArith.wf_i64 (n := l.n) (by have := HLB.out; omega))) (.held (.pointer (some ⟨gl, ol + k * 2 + 1, none⟩))) [] rfl ?_; intro w1 hown1 hgrow1; have HO1 := Lib.hid hown1; have HG1 := Lib.hid hgrow1; clear hown1 hgrow1)
      go_roundw
      case rel => exact ⟨k + 1, updF f l.n (some ⟨gl, ol + k * 2 + 1, none⟩), HKN.out, by go_num, ⟨_, HO1.out, fun m => by
        by_cases hm : m = l.n
        · rw [hm, updF_same]
          exact atKey_put_same HIM.out (show WideAt.IsKeyLit (.int .i64 l.n) from trivial) _ _
        · rw [updF_other _ _ hm, atKey_put_other (by intro e; injection e with _ e; exact hm e)]
          exact HFD.out m⟩, (grown_below HG.out (below_drewN (Below.refl wr.heap.size wr) 1) HG.out.size).trans HG1.out, fun m => by
        rw [HF.out m]
        by_cases hm : m = l.n
        · rw [hm, updF_same, if_pos rfl]; exact HPL.out
        · rw [updF_other _ _ hm, if_neg hm]; exact HP.out m⟩
      case measure => have := HKN.out; simp [intOf] <;> omega
    · have ki : ¬ (k : Int) < (n : Int) := by omega
      have HFIN := Lib.hid (show StF wr (.func (.func 52) #[] #[.pointer (some ⟨gm, 0, none⟩)]) L from ⟨gm, b, k, f, rfl, RMw, hM, fun m => by
        have q := hP m
        rw [List.take_of_length_le (by have := HN.out; omega)] at q
        exact q.keep HK45.out HK71.out HK58.out⟩)
      have HBE := Lib.hid (show Below w.heap.size w wr from Below.grown HB3.out hg HB3.out.size (fun j hj => by injection hj with hj; rw [← hj]; exact H3.out.2.2.2.2.2))
      clear hM hg hP R0w RMw
      go_wp2_with fail
      first | go_ret | ((try simp only [Exit.inBlock, Exit.then]); go_ret)
      first | exact ⟨HFIN.out, HBE.out⟩ | exact ⟨_, rfl, HFIN.out, HBE.out⟩
end Go.Proofs.Ytkonoojmhjinpaa

set_option linter.all false
namespace Go.Proofs.Ytkonoojmhjinpaa
open Go.RowKit Go.Fen
set_option linter.unusedVariables false
set_option maxHeartbeats 4000000

set_option maxRecDepth 20000 in
theorem mequal_any (p q : Option Addr) (x y : Option Rv) (w : World) (h1 : Pt w p x) (h2 : Pt w q y) : Calls Try.prog 34 #[.pointer p, .pointer q] w fun e w' => e = .returned (.bool (sameS x y)) ∧ Below w.heap.size w w' := by
  rcases h1 with ⟨rfl, rfl⟩ | ⟨g, o, r, rfl, rfl, hg, hc, hr, _⟩ <;> rcases h2 with ⟨rfl, rfl⟩ | ⟨g', o', r', rfl, rfl, hg', hc', hr', _⟩
  · go_enter Try.func34, Try.ntmps34
    go_wp2_with fail
    first | go_ret | ((try simp only [Exit.inBlock, Exit.then]); go_ret)
    exact ⟨rfl, Below.refl _ _⟩
  · go_enter Try.func34, Try.ntmps34
    go_wp2_with fail
    first | go_ret | ((try simp only [Exit.inBlock, Exit.then]); go_ret)
    exact ⟨rfl, Below.refl _ _⟩
  · go_enter Try.func34, Try.ntmps34
    go_wp2_with fail
    first | go_ret | ((try simp only [Exit.inBlock, Exit.then]); go_ret)
    exact ⟨rfl, Below.refl _ _⟩
  · obtain ⟨a1, c1, L1⟩ := r
    obtain ⟨a2, c2, L2⟩ := r'
    have HS := Lib.hid (show sameS (some ⟨a1, c1, L1⟩) (some ⟨a2, c2, L2⟩) = decide (L1 = L2) by simp [sameS])
    rw [HS.out]
    simp only [rvv] at hc hc'
    obtain ⟨n1, hn1⟩ : ∃ n, n = L1.length := ⟨_, rfl⟩
    obtain ⟨n2, hn2⟩ : ∃ n, n = L2.length := ⟨_, rfl⟩
    rw [← hn1] at hc
    rw [← hn2] at hc'
    have hd := below_drewN (Below.refl w.heap.size w) 1
    have HC := Lib.hid (cells_any a1 a2 L1 L2 n1 n2 c1 c2 (w.drewN 1) hn1 hn2 (by have := hr.2; simp at this; omega) (by have := hr'.2; simp at this; omega) (hr.1.bel hd) (hr'.1.bel hd))
    clear hr hr' hn1 hn2 hd
    go_enter Try.func34, Try.ntmps34
    go_wp2_with fail
    go_still_tail 8, (by kernel_rfl)
    change wpList _ _ _ _ _ w.drew
    rw [show w.drew = w.drewN 1 from rfl]
    go_wp2_with (go_at_call 53; refine HC.out.mono ?_; rintro e w2 ⟨rfl, q, rfl⟩)
    first | go_ret | ((try simp only [Exit.inBlock, Exit.then]); go_ret)
    exact ⟨rfl, below_drewN (Below.refl _ _) _⟩
/-- fits' closure: no line below the base's next number is new -/
theorem fits1_any (l : Ln) (gb gi : Nat) (u : Value) (Nb : Int) (L0 : List Ln) (w : World) (hb : w.cell? ⟨gb, 0, none⟩ = some (.int .i64 Nb)) (hgb : gb < w.heap.size) (hi : w.cell? ⟨gi, 0, none⟩ = some u) (hgi : gi < w.heap.size) (hu : StF w u L0) (h0 : 0 ≤ l.n) (h1 : l.n < 1000000) (hin : l.n < Nb → ∃ r, findS L0 l.n = some r) :
    Calls Try.prog 51 #[.agg #[.int .i64 l.n, rvv l.r], .pointer (some ⟨gb, 0, none⟩), .pointer (some ⟨gi, 0, none⟩)] w fun e w' => e = .returned (.bool false) ∧ Below w.heap.size w w' := by
  obtain ⟨g, eg⟩ : ∃ g, g = w.heap.size := ⟨_, rfl⟩
  obtain ⟨W0, hW0⟩ : ∃ W, W = w.alloc (.cells #[.int .i64 l.n, rvv l.r] 45) := ⟨_, rfl⟩
  have b0 : Below w.heap.size w W0 := by rw [hW0]; exact (Below.refl _ _).alloc (Nat.le_refl _) _
  have R0 : Row W0 g 45 #[.int .i64 l.n, rvv l.r] := by rw [hW0, eg]; exact Row.new w 45 _
  have k0 : W0.cell? ⟨g, 0, none⟩ = some (.int .i64 l.n) := R0.cell 0
  have k1 : W0.cell? ⟨gb, 0, none⟩ = some (.int .i64 Nb) := (b0.cell (p := ⟨gb, 0, none⟩) hgb).trans hb
  have k2 : W0.cell? ⟨gi, 0, none⟩ = some u := (b0.cell (p := ⟨gi, 0, none⟩) hgi).trans hi
  obtain ⟨gm, b, k, f, rfl, hgm, hm, hp⟩ := hu.bel b0
  have HC := Lib.hid (state_any gm b k f l.n W0 hgm hm h0 h1)
  have HW0 := Lib.hid hW0
  have EG := Lib.hid eg
  have HB := Lib.hid b0
  by_cases hlt : l.n < Nb
  · obtain ⟨r, hr⟩ := hin hlt
    have q := hp l.n
    rw [hr] at q
    rcases q with ⟨_, h⟩ | ⟨g2, o2, r2, hf, _⟩
    · cases h
    · rw [hf] at HC
      have d1 : decide (l.n < Nb) = true := decide_eq_true hlt
      clear hW0 eg b0 R0 hb hi hu hgm hm hp hr hf hin
      go_enter Try.func51, Try.ntmps51
      go_wp2_with (first | ((with_reducible show wpList _ _ _ (Oper.mk _ (Op.box _ _) _ _ _ _ :: _) _ _); (refine wpList_box_row rfl 45 (.tmp 0) rfl _ rfl g EG.out ?_; refine wpList_atE HW0.out ?_)) | (go_at_call 52; refine HC.out.mono ?_; rintro e w2 ⟨rfl, hw2⟩; subst w2))
      first | go_ret | ((try simp only [Exit.inBlock, Exit.then]); go_ret)
      exact ⟨rfl, HB.out⟩
  · have d1 : decide (l.n < Nb) = false := decide_eq_false hlt
    clear hW0 eg b0 R0 hb hi hu hgm hm hp hin
    go_enter Try.func51, Try.ntmps51
    go_wp2_with (first | ((with_reducible show wpList _ _ _ (Oper.mk _ (Op.box _ _) _ _ _ _ :: _) _ _); (refine wpList_box_row rfl 45 (.tmp 0) rfl _ rfl g EG.out ?_; refine wpList_atE HW0.out ?_)))
    first | go_ret | ((try simp only [Exit.inBlock, Exit.then]); go_ret)
    exact ⟨rfl, HB.out⟩
/-- fresh's closure -/
theorem fresh1_any (l : Ln) (gb : Nat) (Nb : Int) (w : World) (hb : w.cell? ⟨gb, 0, none⟩ = some (.int .i64 Nb)) (hgb : gb < w.heap.size) :
    Calls Try.prog 55 #[.agg #[.int .i64 l.n, rvv l.r], .pointer (some ⟨gb, 0, none⟩)] w fun e w' => e = .returned (.bool (decide (Nb ≤ l.n))) ∧ Below w.heap.size w w' := by
  obtain ⟨g, eg⟩ : ∃ g, g = w.heap.size := ⟨_, rfl⟩
  obtain ⟨W0, hW0⟩ : ∃ W, W = w.alloc (.cells #[.int .i64 l.n, rvv l.r] 45) := ⟨_, rfl⟩
  have b0 : Below w.heap.size w W0 := by rw [hW0]; exact (Below.refl _ _).alloc (Nat.le_refl _) _
  have R0 : Row W0 g 45 #[.int .i64 l.n, rvv l.r] := by rw [hW0, eg]; exact Row.new w 45 _
  have k0 : W0.cell? ⟨g, 0, none⟩ = some (.int .i64 l.n) := R0.cell 0
  have k1 : W0.cell? ⟨gb, 0, none⟩ = some (.int .i64 Nb) := (b0.cell (p := ⟨gb, 0, none⟩) hgb).trans hb
  have HW0 := Lib.hid hW0
  have EG := Lib.hid eg
  have HB := Lib.hid b0
  clear hW0 eg b0 R0 hb
  go_enter Try.func55, Try.ntmps55
  go_wp2_with (first | ((with_reducible show wpList _ _ _ (Oper.mk _ (Op.box _ _) _ _ _ _ :: _) _ _); (refine wpList_box_row rfl 45 (.tmp 0) rfl _ rfl g EG.out ?_; refine wpList_atE HW0.out ?_)))
  first | go_ret | ((try simp only [Exit.inBlock, Exit.then]); go_ret)
  exact ⟨rfl, HB.out⟩
end Go.Proofs.Ytkonoojmhjinpaa

set_option linter.all false
namespace Go.Proofs.Ytkonoojmhjinpaa
open Go.RowKit Go.Fen
set_option linter.unusedVariables false
set_option maxHeartbeats 4000000

set_option maxRecDepth 20000 in
theorem indexFits (L : List Ln) (a : Option Addr) (n c gb gi : Nat) (u : Value) (Nb : Int) (L0 : List Ln) (w : World) (hn : n = L.length) (hL : n ≤ 1000) (hLs : Lns w a L) (hb : w.cell? ⟨gb, 0, none⟩ = some (.int .i64 Nb)) (hgb : gb < w.heap.size) (hi : w.cell? ⟨gi, 0, none⟩ = some u) (hgi : gi < w.heap.size) (hu : StF w u L0) (hm : ∀ l ∈ L, 0 ≤ l.n ∧ l.n < 1000000) (hin : ∀ l ∈ L, l.n < Nb → ∃ r, findS L0 l.n = some r) :
    Calls Try.prog 54 #[.slice a n c, .func (.func 51) #[] #[.pointer (some ⟨gb, 0, none⟩), .pointer (some ⟨gi, 0, none⟩)]] w fun e w' => e = .returned (.int .i64 (-1)) ∧ Below w.heap.size w w' := by
  have HLS := Lib.hid hLs
  have HN := Lib.hid hn
  have HC := Lib.hid (fun (w' : World) (hbl : Below w.heap.size w w') (l : Ln) (hl : l ∈ L) => fits1_any l gb gi u Nb L0 w' ((hbl.cell (p := ⟨gb, 0, none⟩) hgb).trans hb) (Nat.lt_of_lt_of_le hgb hbl.size) ((hbl.cell (p := ⟨gi, 0, none⟩) hgi).trans hi) (Nat.lt_of_lt_of_le hgi hbl.size) (hu.bel hbl) (hm l hl).1 (hm l hl).2 (hin l hl))
  clear hLs hn hb hi hu hm hin
  go_enter Try.func54, Try.ntmps54
  go_wp2_with fail
  go_loopw [8] (fun iv wr => ∃ (k : Nat), k ≤ n ∧ iv = .int .i64 k ∧ Below w.heap.size w wr) (fun iv _ => n - (intOf iv).toNat)
  case atStart => exact ⟨0, by omega, rfl, Below.refl _ _⟩
  case round =>
    obtain ⟨k, hk, rfl, hbl⟩ := hrel
    have HBL := Lib.hid hbl
    by_cases hkn : k < n
    · have ki : (k : Int) < (n : Int) := by omega
      obtain ⟨gl, ol, rfl, hgl, hc⟩ := HLS.out.1.form (by rw [← HN.out]; omega)
      obtain ⟨l, hl⟩ : ∃ f, L[k]? = some f := ⟨_, List.getElem?_eq_getElem (by rw [← HN.out]; omega)⟩
      have hrg := range_below (hc k l hl) hbl hgl
      have c0 : wr.cell? ⟨gl, ol + k * 2, none⟩ = some (.int .i64 l.n) := by have := hrg 0 _ rfl; rw [Nat.add_zero] at this; exact this
      have c1 : wr.cell? ⟨gl, ol + k * 2 + 1, none⟩ = some (rvv l.r) := hrg 1 _ rfl
      have HCL := Lib.hid (HC.out wr hbl l (List.mem_of_getElem? hl))
      have HKN := Lib.hid hkn
      clear hc hgl hl hrg hbl hkn hk
      go_wp2_with (go_at_call 51; refine HCL.out.mono ?_; rintro e w2 ⟨rfl, hb2⟩; have HB2 := Lib.hid (HBL.out.trans (hb2.mono HBL.out.size)); clear hb2)
      go_roundw
      case rel => exact ⟨k + 1, HKN.out, by go_num, HB2.out⟩
      case measure => have := HKN.out; simp [intOf] <;> omega
    · have ki : ¬ (k : Int) < (n : Int) := by omega
      clear hbl
      go_wp2_with fail
      first | go_ret | ((try simp only [Exit.inBlock, Exit.then]); go_ret)
      exact ⟨rfl, HBL.out⟩
set_option maxRecDepth 20000 in
theorem indexFresh (L : List Ln) (a : Option Addr) (n c gb : Nat) (Nb : Int) (w : World) (hn : n = L.length) (hL : n ≤ 1000) (hLs : Lns w a L) (hb : w.cell? ⟨gb, 0, none⟩ = some (.int .i64 Nb)) (hgb : gb < w.heap.size) :
    Calls Try.prog 54 #[.slice a n c, .func (.func 55) #[] #[.pointer (some ⟨gb, 0, none⟩)]] w fun e w' => (∃ k : Nat, k ≤ n ∧ (∀ j l, j < k → L[j]? = some l → l.n < Nb) ∧ ((k = n ∧ e = .returned (.int .i64 (-1))) ∨ (k < n ∧ (∀ l, L[k]? = some l → Nb ≤ l.n) ∧ e = .returned (.int .i64 k)))) ∧ Below w.heap.size w w' := by
  have HLS := Lib.hid hLs
  have HN := Lib.hid hn
  have HC := Lib.hid (fun (w' : World) (hbl : Below w.heap.size w w') (l : Ln) => fresh1_any l gb Nb w' ((hbl.cell (p := ⟨gb, 0, none⟩) hgb).trans hb) (Nat.lt_of_lt_of_le hgb hbl.size))
  clear hLs hn hb
  go_enter Try.func54, Try.ntmps54
  go_wp2_with fail
  go_loopw [8] (fun iv wr => ∃ (k : Nat), k ≤ n ∧ iv = .int .i64 k ∧ Below w.heap.size w wr ∧ ∀ j l, j < k → L[j]? = some l → l.n < Nb) (fun iv _ => n - (intOf iv).toNat)
  case atStart => exact ⟨0, by omega, rfl, Below.refl _ _, fun j l hj => by omega⟩
  case round =>
    obtain ⟨k, hk, rfl, hbl, hall⟩ := hrel
    have HBL := Lib.hid hbl
    have HALL := Lib.hid hall
    by_cases hkn : k < n
    · have ki : (k : Int) < (n : Int) := by omega
      obtain ⟨gl, ol, rfl, hgl, hc⟩ := HLS.out.1.form (by rw [← HN.out]; omega)
      obtain ⟨l, hl⟩ : ∃ f, L[k]? = some f := ⟨_, List.getElem?_eq_getElem (by rw [← HN.out]; omega)⟩
      have hrg := range_below (hc k l hl) hbl hgl
      have c0 : wr.cell? ⟨gl, ol + k * 2, none⟩ = some (.int .i64 l.n) := by have := hrg 0 _ rfl; rw [Nat.add_zero] at this; exact this
      have c1 : wr.cell? ⟨gl, ol + k * 2 + 1, none⟩ = some (rvv l.r) := hrg 1 _ rfl
      have HCL := Lib.hid (HC.out wr hbl l)
      have HKN := Lib.hid hkn
      have HLK := Lib.hid hl
      by_cases hlt : Nb ≤ l.n
      · rw [decide_eq_true hlt] at HCL
        have HLT := Lib.hid hlt
        clear hc hgl hl hrg hbl hkn hk hall hlt
        go_wp2_with (go_at_call 55; refine HCL.out.mono ?_; rintro e w2 ⟨rfl, hb2⟩; have HB2 := Lib.hid (HBL.out.trans (hb2.mono HBL.out.size)); clear hb2)
        first | go_ret | ((try simp only [Exit.inBlock, Exit.then]); go_ret)
        exact ⟨⟨k, by have := HKN.out; omega, HALL.out, .inr ⟨HKN.out, fun l' hl' => by rw [HLK.out] at hl'; injection hl' with e; rw [← e]; exact HLT.out, rfl⟩⟩, HB2.out⟩
      · rw [decide_eq_false hlt] at HCL
        have HLT := Lib.hid hlt
        clear hc hgl hl hrg hbl hkn hk hall hlt
        go_wp2_with (go_at_call 55; refine HCL.out.mono ?_; rintro e w2 ⟨rfl, hb2⟩; have HB2 := Lib.hid (HBL.out.trans (hb2.mono HBL.out.size)); clear hb2)
        go_roundw
        case rel => exact ⟨k + 1, HKN.out, by go_num, HB2.out, fun j l' hj hl' => by
          by_cases e : j = k
          · subst e; rw [HLK.out] at hl'; injection hl' with e; rw [← e]; have := HLT.out; omega
          · exact HALL.out j l' (by omega) hl'⟩
        case measure => have := HKN.out; simp [intOf] <;> omega
    · have ki : ¬ (k : Int) < (n : Int) := by omega
      have HKN := Lib.hid (show k = n by omega)
      clear hbl hall hk hkn
      go_wp2_with fail
      first | go_ret | ((try simp only [Exit.inBlock, Exit.then]); go_ret)
      exact ⟨⟨k, by rw [HKN.out]; omega, HALL.out, .inl ⟨HKN.out, rfl⟩⟩, HBL.out⟩
theorem containsFits (L : List Ln) (a : Option Addr) (n c gb gi : Nat) (u : Value) (Nb : Int) (L0 : List Ln) (w : World) (hn : n = L.length) (hL : n ≤ 1000) (hLs : Lns w a L) (hb : w.cell? ⟨gb, 0, none⟩ = some (.int .i64 Nb)) (hgb : gb < w.heap.size) (hi : w.cell? ⟨gi, 0, none⟩ = some u) (hgi : gi < w.heap.size) (hu : StF w u L0) (hm : ∀ l ∈ L, 0 ≤ l.n ∧ l.n < 1000000) (hin : ∀ l ∈ L, l.n < Nb → ∃ r, findS L0 l.n = some r) :
    Calls Try.prog 50 #[.slice a n c, .func (.func 51) #[] #[.pointer (some ⟨gb, 0, none⟩), .pointer (some ⟨gi, 0, none⟩)]] w fun e w' => e = .returned (.bool false) ∧ Below w.heap.size w w' := by
  have HC := Lib.hid (indexFits L a n c gb gi u Nb L0 w hn hL hLs hb hgb hi hgi hu hm hin)
  clear hLs hn hb hi hu hm hin hL
  go_enter Try.func50, Try.ntmps50
  go_wp2_with (go_at_call 54; refine HC.out.mono ?_; rintro e w2 ⟨rfl, hb2⟩)
  first | go_ret | ((try simp only [Exit.inBlock, Exit.then]); go_ret)
  exact ⟨rfl, hb2⟩
end Go.Proofs.Ytkonoojmhjinpaa

set_option linter.all false
namespace Go.Proofs.Ytkonoojmhjinpaa
open Go.RowKit Go.Fen
set_option linter.unusedVariables false
set_option maxHeartbeats 4000000

theorem Try.z97 : (Try.prog.info? 97).bind (·.zero) = some .nilFunc := by kernel_rfl
/-- the two tables, boxed -/
theorem two_box (w : World) (N1 N2 : Int) (a1 a2 : Option Addr) (n1 n2 c1 c2 : Nat) : ∃ (g : Nat) (W0 W1 : World), g = w.heap.size ∧ W0 = w.alloc (.cells #[.int .i64 N1, .slice a1 n1 c1] 38) ∧ W1 = W0.alloc (.cells #[.int .i64 N2, .slice a2 n2 c2] 38) ∧ W0.heap.size = g + 1 ∧ Below w.heap.size w W1 ∧ Row W1 g 38 #[.int .i64 N1, .slice a1 n1 c1] ∧ Row W1 (g + 1) 38 #[.int .i64 N2, .slice a2 n2 c2] := by
  have z0 : (w.alloc (.cells #[.int .i64 N1, .slice a1 n1 c1] 38)).heap.size = w.heap.size + 1 := by simp
  exact ⟨w.heap.size, _, _, rfl, rfl, rfl, z0, ((Below.refl _ _).alloc (Nat.le_refl _) _).alloc (by simp) _, (Row.new w 38 _).alloc _, Row.new' 38 _ z0.symm⟩
set_option maxRecDepth 20000 in
theorem mfits_any (v1 v2 : Value) (N1 N2 : Int) (L1 L2 : List Ln) (w : World) (hT1 : Tb w v1 N1 L1) (hT2 : Tb w v2 N2 L2) (hR1 : Rising N1 L1) (hR2 : Rising N2 L2) (h1 : N1 ≤ 1000000) (h2 : N2 ≤ 1000000) (hl1 : L1.length ≤ 1000) (hl2 : L2.length ≤ 1000) (h12 : N1 ≤ N2) (hin : ∀ l ∈ L2, l.n < N1 → ∃ r, findS L1 l.n = some r) :
    Calls Try.prog 32 #[v1, v2] w fun e w' => e = .returned (.bool true) ∧ Below w.heap.size w w' := by
  have HST := Lib.hid (fun w' (hb : Below w.heap.size w w') => states_any v1 N1 L1 w' (hT1.bel hb) hR1 h1 hl1)
  obtain ⟨a1, c1, rfl, hc1, hL1⟩ := hT1
  obtain ⟨a2, c2, rfl, hc2, hL2⟩ := hT2
  have HLs := Lib.hid (show Lns w a2 L2 ∧ (∀ l ∈ L2, 0 ≤ l.n ∧ l.n < 1000000) ∧ L2.length ≤ 1000 from ⟨hL2, fun l hl => by have := hR2.1 l hl; omega, hl2⟩)
  have HIN := Lib.hid hin
  obtain ⟨n1, hn1⟩ : ∃ n, n = L1.length := ⟨_, rfl⟩
  obtain ⟨n2, hn2⟩ : ∃ n, n = L2.length := ⟨_, rfl⟩
  rw [← hn1] at HST ⊢
  rw [← hn2]
  obtain ⟨g, W0, W1, eg, hW0, hW1, z0, b0, R0, R1⟩ := two_box w N1 N2 a1 a2 n1 n2 c1 c2
  have k00 : W1.cell? ⟨g, 0, none⟩ = some (.int .i64 N1) := R0.cell 0
  have k01 : W1.cell? ⟨g, 1, none⟩ = some (.slice a1 n1 c1) := R0.cell 1
  have HR0 := Lib.hid R0
  have HR1 := Lib.hid R1
  have HW0 := Lib.hid hW0
  have HW1 := Lib.hid hW1
  have EG := Lib.hid eg
  have Z0 := Lib.hid z0
  have HB := Lib.hid b0
  have HN2 := Lib.hid hn2
  have HCA := Lib.hid (HST.out W1 b0)
  have dN : decide (N1 ≤ N2) = true := decide_eq_true h12
  clear hW0 hW1 eg z0 b0 R0 R1 hL1 hL2 hn1 hn2 hc1 hc2 hR1 hR2 h1 h2 hl1 hl2 hin
  go_enter Try.func32, Try.ntmps32
  go_wp2_with (first | ((with_reducible show wpList _ _ _ (Oper.mk _ (Op.box _ _) _ _ _ _ :: _) _ _); (first | (refine wpList_box_row rfl 38 (.tmp 0) rfl _ rfl g EG.out ?_; refine wpList_atE HW0.out ?_) | (refine wpList_box_row rfl 38 (.tmp 1) rfl _ rfl (g + 1) Z0.out.symm ?_; refine wpList_atE HW1.out ?_))))
  refine HCA.out.mono ?_
  rintro e w2 ⟨u, rfl, hu, hb2⟩
  obtain ⟨gm, eu⟩ : ∃ gm : Nat, u = .func (.func 52) #[] #[.pointer (some ⟨gm, 0, none⟩)] := by obtain ⟨gm, _, _, _, e, _⟩ := hu; exact ⟨gm, e⟩
  subst eu
  obtain ⟨gi, hgi⟩ : ∃ x, x = w2.heap.size := ⟨_, rfl⟩
  obtain ⟨W3, hW3⟩ : ∃ W, W = w2.alloc (.cells #[.nilFunc] 97) := ⟨_, rfl⟩
  obtain ⟨W4, hW4⟩ : ∃ W, W = W3.setCell ⟨gi, 0, none⟩ (.func (.func 52) #[] #[.pointer (some ⟨gm, 0, none⟩)]) := ⟨_, rfl⟩
  have b3 : Below w2.heap.size w2 W3 := by rw [hW3]; exact (Below.refl _ _).alloc (Nat.le_refl _) _
  have b4 : Below gi W3 W4 := by rw [hW4]; exact (Below.refl gi W3).setCell (show gi ≤ (⟨gi, 0, none⟩ : Addr).block from Nat.le_refl _) _
  have b34 : Below w2.heap.size w2 W4 := b3.trans (by rw [← hgi]; exact b4)
  have RI : Row W3 gi 97 #[.nilFunc] := by rw [hW3]; exact Row.new' 97 _ hgi
  have RI4 : Row W4 gi 97 #[.func (.func 52) #[] #[.pointer (some ⟨gm, 0, none⟩)]] := by rw [hW4]; exact RI.set 0 _
  have f3 : W3.frozen? ⟨gi, 0, none⟩ = false := RI.frozen 0
  have c3 : W3.cell? ⟨gi, 0, none⟩ = some .nilFunc := RI.cell 0
  have b24 := bel_tr hb2 b34
  have R04 := HR0.out.below b24 HR0.out.lt
  have R14 := HR1.out.below b24 HR1.out.lt
  have k40 : W4.cell? ⟨g, 0, none⟩ = some (.int .i64 N1) := R04.cell 0
  have k41 : W4.cell? ⟨g + 1, 0, none⟩ = some (.int .i64 N2) := R14.cell 0
  have k42 : W4.cell? ⟨g + 1, 1, none⟩ = some (.slice a2 n2 c2) := R14.cell 1
  have HB4 := Lib.hid (bel_tr HB.out b24)
  have HCB := Lib.hid (containsFits L2 a2 n2 c2 g gi _ N1 L1 W4 HN2.out (by have := HLs.out.2.2; have := HN2.out; omega) (HLs.out.1.bel HB4.out) k40 R04.lt (RI4.cell 0) RI4.lt (hu.bel b34) HLs.out.2.1 HIN.out)
  have HGI := Lib.hid hgi
  have HW3 := Lib.hid hW3
  have HW4 := Lib.hid hW4
  clear hgi hW3 hW4 b3 b4 b34 RI RI4 b24 R04 R14 hu hb2 k00 k01
  go_upto_region 2 with (first | ((with_reducible show wpList _ _ _ (Oper.mk _ (Op.alloc _) _ _ _ _ :: _) _ _); (refine wpList_alloc_val rfl 97 rfl .nilFunc Try.z97 gi HGI.out ?_; refine wpList_atE HW3.out ?_)))
  try simp only [Act.put, List.setIfInBounds_toArray, List.set_cons_zero, List.set_cons_succ]
  rw [← HW4.out]
  clear f3 c3
  go_wp2_with (go_at_call 50; refine HCB.out.mono ?_; rintro e w5 ⟨rfl, hb5⟩; have HB5 := Lib.hid (bel_tr HB4.out hb5); clear hb5)
  first | go_ret | ((try simp only [Exit.inBlock, Exit.then]); go_ret)
  exact ⟨rfl, HB5.out⟩
set_option maxRecDepth 20000 in
theorem fresh_any (v1 v2 : Value) (N1 N2 : Int) (L1 L2 : List Ln) (w : World) (hT1 : Tb w v1 N1 L1) (hT2 : Tb w v2 N2 L2) (hl2 : L2.length ≤ 1000) :
    Calls Try.prog 35 #[v1, v2] w fun e w' => (∃ (k : Nat) (p : Option Addr) (c : Nat), e = .returned (.slice p (L2.drop k).length c) ∧ Lns w' p (L2.drop k) ∧ k ≤ L2.length ∧ (∀ j l, j < k → L2[j]? = some l → l.n < N1) ∧ (∀ l, L2[k]? = some l → N1 ≤ l.n)) ∧ Below w.heap.size w w' := by
  obtain ⟨a1, c1, rfl, hc1, hL1⟩ := hT1
  obtain ⟨a2, c2, rfl, hc2, hL2⟩ := hT2
  obtain ⟨n1, hn1⟩ : ∃ n, n = L1.length := ⟨_, rfl⟩
  obtain ⟨n2, hn2⟩ : ∃ n, n = L2.length := ⟨_, rfl⟩
  rw [← hn2] at hc2 hl2
  have HN2 := Lib.hid hn2
  rw [← hn1]
  conv => arg 3; rw [← hn2]
  obtain ⟨g, W0, W1, eg, hW0, hW1, z0, b0, R0, R1⟩ := two_box w N1 N2 a1 a2 n1 n2 c1 c2
  have k11 : W1.cell? ⟨g + 1, 1, none⟩ = some (.slice a2 n2 c2) := R1.cell 1
  have HC := Lib.hid (indexFresh L2 a2 n2 c2 g N1 W1 hn2 hl2 (hL2.bel b0) (R0.cell 0) R0.lt)
  have HLS := Lib.hid (hL2.bel b0)
  have HR1 := Lib.hid R1
  have HW0 := Lib.hid hW0
  have HW1 := Lib.hid hW1
  have EG := Lib.hid eg
  have Z0 := Lib.hid z0
  have HB := Lib.hid b0
  clear hW0 hW1 eg z0 b0 R0 R1 hL1 hL2 hn1 hn2 hc1
  go_enter Try.func35, Try.ntmps35
  go_wp2_with (first | ((with_reducible show wpList _ _ _ (Oper.mk _ (Op.box _ _) _ _ _ _ :: _) _ _); (first | (refine wpList_box_row rfl 38 (.tmp 0) rfl _ rfl g EG.out ?_; refine wpList_atE HW0.out ?_) | (refine wpList_box_row rfl 38 (.tmp 1) rfl _ rfl (g + 1) Z0.out.symm ?_; refine wpList_atE HW1.out ?_))))
  refine HC.out.mono ?_
  rintro e w2 ⟨⟨k, hk, hall, hor⟩, hb2⟩
  have HB2 := Lib.hid (bel_tr HB.out hb2)
  have HALL := Lib.hid hall
  have HLS2 := Lib.hid (HLS.out.bel hb2)
  have k21 : w2.cell? ⟨g + 1, 1, none⟩ = some (.slice a2 n2 c2) := (HR1.out.below hb2 HR1.out.lt).cell 1
  clear hb2 hall k11
  rcases hor with ⟨hk2, rfl⟩ | ⟨hk2, hge, rfl⟩
  · have HK := Lib.hid hk2
    clear hk2
    go_wp2_with fail
    first | go_ret | ((try simp only [Exit.inBlock, Exit.then]); go_ret)
    refine ⟨⟨k, none, 0, ?_, ?_, by rw [HK.out, HN2.out]; exact Nat.le_refl _, HALL.out, fun l hl => by rw [List.getElem?_eq_none (by rw [HK.out, HN2.out]; exact Nat.le_refl _)] at hl; cases hl⟩, HB2.out⟩
    · rw [List.drop_of_length_le (by rw [HK.out, HN2.out]; exact Nat.le_refl _)]; rfl
    · rw [List.drop_of_length_le (by rw [HK.out, HN2.out]; exact Nat.le_refl _)]; exact Lns.nil _ _
  · obtain ⟨gl, ol, rfl, hgl, hc⟩ := HLS2.out.1.form (by rw [← HN2.out]; omega)
    have HGE := Lib.hid hge
    have hkc : k < c2 := by omega
    have HFIN := Lib.hid (show Lns w2 (some ⟨gl, ol + k * 2, none⟩) (L2.drop k) from by
      refine ⟨?_, fun l hl => HLS2.out.2 l (List.drop_subset _ _ hl)⟩
      rcases HLS2.out.1 with h0 | ⟨g', o', e, hg, hcc, cs, fr, ht⟩
      · rw [← HN2.out] at h0; omega
      · injection e with e
        injection e with e1 e2
        subst e1 e2
        refine .inr ⟨_, _, rfl, hg, fun i x hx => ?_, cs, fr, ht⟩
        rw [List.getElem?_drop] at hx
        have := hcc (k + i) x hx
        rw [show ol + k * 2 + i * 2 = ol + (k + i) * 2 by omega]
        exact this)
    clear hge hc hgl
    go_wp2_with fail
    first | go_ret | ((try simp only [Exit.inBlock, Exit.then]); go_ret)
    exact ⟨⟨k, some ⟨gl, ol + k * 2, none⟩, c2 - k, by rw [List.length_drop, ← HN2.out]; rfl, HFIN.out, by rw [← HN2.out]; exact hk, HALL.out, HGE.out⟩, HB2.out⟩
end Go.Proofs.Ytkonoojmhjinpaa
