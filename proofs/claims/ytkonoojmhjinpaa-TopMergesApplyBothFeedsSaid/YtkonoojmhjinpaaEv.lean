/- Contracts: events. -/
import Derived.Test.YtkonoojmhjinpaaK4
set_option linter.all false
namespace Go.Proofs.Ytkonoojmhjinpaa
open Go.RowKit Go.Fen
set_option linter.unusedVariables false
set_option maxHeartbeats 4000000

theorem Try.z87 : (Try.prog.info? 87).bind (·.zero) = some (.agg #[.int .i64 0, .pointer none, .pointer none]) := by kernel_rfl
theorem Try.n87 : (Try.prog.info? 87).map (·.size) = some 3 := by kernel_rfl
theorem Try.info71 : (Try.prog.info? 71).map (fun i => (i.zero, i.size, i.bytes)) = some (some (.agg #[.int .i64 0, .int .i64 0, .slice none 0 0]), 3, 40) := by kernel_rfl
/-- the events of an item -/
def wentOf (n : Int) : Option Rv → List Ev
  | none => []
  | some r => [⟨2, n, r⟩]
def cameOf (n : Int) : Option Rv → List Ev
  | none => []
  | some r => [⟨1, n, r⟩]
def evOf (i : It) : List Ev := if sameS i.x i.y then [] else wentOf i.n i.x ++ cameOf i.n i.y
theorem evOf_len (i : It) : (evOf i).length ≤ 2 := by
  unfold evOf
  split
  · simp
  · cases i.x <;> cases i.y <;> simp [wentOf, cameOf]
theorem evs_len : ∀ its : List It, (its.flatMap evOf).length ≤ 2 * its.length
  | [] => by simp
  | i :: its => by
    rw [List.flatMap_cons, List.length_append, List.length_cons]
    have := evOf_len i
    have := evs_len its
    omega
theorem take_flat {α β : Type} (f : α → List β) (L : List α) (k : Nat) (x : α) (h : L[k]? = some x) : (L.take (k + 1)).flatMap f = (L.take k).flatMap f ++ f x := by
  rw [List.take_add_one, h]
  simp
/-- the events so far: the list is the call's own, the rows lie -/
def EvG (w0 : World) (E : List Ev) (v : Value) (w : World) : Prop := w.ownsRow w0.heap.size 71 3 v E.length (E.flatMap evc) ∧ Below w0.heap.size w0 w
theorem EvG.bel {w0 w w' : World} {E : List Ev} {v : Value} (h : EvG w0 E v w) (hb : Below w.heap.size w w') : EvG w0 E v w' :=
  ⟨owns_below h.1 hb (Nat.le_refl _), h.2.trans (hb.mono h.2.size)⟩
theorem EvG.push {w0 w w1 w' : World} {E : List Ev} {e : Ev} {v v' : Value} {n : Nat} (h : EvG w0 E v w) (hb : Below w.heap.size w w1) (hv : w'.ownsRow w0.heap.size 71 3 v' n (E.flatMap evc ++ evc e)) (hn : n = E.length + 1) (hg : w1.grownBy w' v.ownBlock) : EvG w0 (E ++ [e]) v' w' := by
  refine ⟨?_, ?_⟩
  · rw [List.length_append, List.length_singleton, ← hn, ← fl_snoc]; exact hv
  · exact Below.grown (h.2.trans (hb.mono h.2.size)) hg (Nat.le_trans h.2.size hb.size) (fun k hk => (h.1.lt k hk).1)
set_option maxRecDepth 20000 in
theorem events_any (a : Option Addr) (its : List It) (n c : Nat) (w : World) (hn : n = its.length) (hI : Lt 87 3 itc w a its) (hP : ∀ i ∈ its, IOk w i) (hL : n ≤ 10000) : Calls Try.prog 25 #[.slice a n c] w fun e w' => ∃ v, e = .returned v ∧ EvG w (its.flatMap evOf) v w' := by
  have HI := Lib.hid hI
  have HP := Lib.hid hP
  have HN := Lib.hid hn
  have A0 := Lib.hid (show EvG w [] (.slice none 0 0) w from ⟨World.ownsRow_nil _ _ _ _, Below.refl _ _⟩)
  clear hI hP hn
  go_enter Try.func25, Try.ntmps25
  go_wp2_with fail
  go_loopw [8, 3] (fun iv u wr => ∃ (k : Nat) (VV : Value), k ≤ n ∧ iv = .int .i64 k ∧ VV = u ∧ EvG w ((its.take k).flatMap evOf) VV wr) (fun iv _ _ => n - (intOf iv).toNat)
  case atStart => exact ⟨0, _, by omega, rfl, rfl, A0.out⟩
  case round =>
    obtain ⟨k, VV, hk, rfl, rfl, hA⟩ := hrel
    by_cases hkn : k < n
    · have ki : (k : Int) < (n : Int) := by omega
      obtain ⟨gl, ol, rfl, hgl, hc⟩ := HI.out.form (by rw [← HN.out]; omega)
      obtain ⟨i, hi⟩ : ∃ f, its[k]? = some f := ⟨_, List.getElem?_eq_getElem (by rw [← HN.out]; omega)⟩
      have hio : IOk w i := HP.out i (List.mem_of_getElem? hi)
      have hrg := range_below (hc k i hi) hA.2 hgl
      have c0 : wr.cell? ⟨gl, ol + k * 3, none⟩ = some (.int .i64 i.n) := by have := hrg 0 _ rfl; rw [Nat.add_zero] at this; exact this
      have c1 : wr.cell? ⟨gl, ol + k * 3 + 1, none⟩ = some (.pointer i.p) := hrg 1 _ rfl
      have c2 : wr.cell? ⟨gl, ol + k * 3 + 2, none⟩ = some (.pointer i.q) := hrg 2 _ rfl
      obtain ⟨E, hE⟩ : ∃ E, E = (its.take k).flatMap evOf := ⟨_, rfl⟩
      have hnext : (its.take (k + 1)).flatMap evOf = E ++ evOf i := by rw [hE]; exact take_flat evOf its k i hi
      have hEl : E.length ≤ 20000 := by rw [hE]; have := evs_len (its.take k); rw [List.length_take] at this; omega
      rw [← hE] at hA
      obtain ⟨gx, hgx⟩ : ∃ x, x = wr.heap.size := ⟨_, rfl⟩
      obtain ⟨W5, hW5⟩ : ∃ W, W = wr.alloc (.cells #[.int .i64 i.n, .pointer i.p, .pointer i.q] 87) := ⟨_, rfl⟩
      have b5 : Below wr.heap.size wr W5 := by rw [hW5]; exact (Below.refl _ _).alloc (Nat.le_refl _) _
      have R5 : Row W5 gx 87 #[.int .i64 i.n, .pointer i.p, .pointer i.q] := by rw [hW5]; exact Row.new' 87 _ hgx
      have k51 : W5.cell? ⟨gx, 1, none⟩ = some (.pointer i.p) := R5.cell 1
      have k52 : W5.cell? ⟨gx, 2, none⟩ = some (.pointer i.q) := R5.cell 2
      have hA5 := hA.bel b5
      have HC := Lib.hid (same_any i.p i.q i.x i.y W5 (hio.1.bel hA5.2) (hio.2.bel hA5.2))
      have HX := Lib.hid hgx
      have HW5 := Lib.hid hW5
      have HA5 := Lib.hid hA5
      have HR5 := Lib.hid R5
      have HKN := Lib.hid hkn
      have HNX := Lib.hid hnext
      have HNE := Lib.hid (fun q (hq : VV.ownBlock = some q) => (show q < gx by rw [hgx]; exact (hA.1.lt q hq).2))
      have HPP := Lib.hid hio
      have HEl := Lib.hid hEl
      clear hA hA5 b5 R5 hnext hW5 hgx hi hc hgl hrg hE hkn hk hio hEl
      cases hs : sameS i.x i.y with
      | true =>
        have HE0 := Lib.hid (show E ++ evOf i = E by simp [evOf, hs])
        rw [hs] at HC
        go_wp2_with (first | ((with_reducible show wpList _ _ _ (Oper.mk _ (Op.alloc _) _ _ _ _ :: _) _ _); (refine wpList_new_row rfl rfl 87 5 (.tmp 11) rfl rfl rfl rfl gx HX.out #[.int .i64 i.n, .pointer i.p, .pointer i.q] rfl rfl _ Try.z87 Try.n87 rfl (by simp [Value.oneCell']) ?_; refine wpList_atE HW5.out ?_)) | (go_at_call 31; refine HC.out.mono ?_; rintro e w6 ⟨rfl, hb6⟩))
        go_roundw
        case rel => exact ⟨k + 1, _, HKN.out, by go_num, rfl, by rw [HNX.out, HE0.out]; exact HA5.out.bel hb6⟩
        case measure => have := HKN.out; simp [intOf] <;> omega
      | false =>
        have HEV := Lib.hid (show evOf i = wentOf i.n i.x ++ cameOf i.n i.y by simp [evOf, hs])
        rw [hs] at HC
        have HS := Lib.hid hs
        clear hs
        obtain ⟨m, p, q, x, y⟩ := i
        rcases HPP.out with ⟨⟨hp, hx⟩ | ⟨g, o, r, hp, hx, hg, hc, hr, _⟩, ⟨hq, hy⟩ | ⟨g', o', r', hq, hy, hg', hc', hr', _⟩⟩
        · exfalso
          have := HS.out
          simp only at hx hy
          subst hx hy
          simp [sameS] at this
        · simp only at hp hx hq hy
          subst hp hx hq hy
          simp only at HX HC c0 c1 c2 k51 k52
          go_wp2_with (first | ((with_reducible show wpList _ _ _ (Oper.mk _ (Op.alloc _) _ _ _ _ :: _) _ _); (refine wpList_new_row rfl rfl 87 5 (.tmp 11) rfl rfl rfl rfl gx HX.out #[.int .i64 m, .pointer none, .pointer (some ⟨g', o', none⟩)] rfl rfl _ Try.z87 Try.n87 rfl (by simp [Value.oneCell']) ?_; refine wpList_atE HW5.out ?_)) | (go_at_call 31; refine HC.out.mono ?_; rintro e w6 ⟨rfl, hb6⟩; have R6 := HR5.out.below hb6 HR5.out.lt; have k60 : w6.cell? ⟨gx, 0, none⟩ = some (.int .i64 m) := R6.cell 0; have k61 : w6.cell? ⟨gx, 1, none⟩ = some (.pointer none) := R6.cell 1; have k62 : w6.cell? ⟨gx, 2, none⟩ = some (.pointer (some ⟨g', o', none⟩)) := R6.cell 2; have HA6 := Lib.hid (HA5.out.bel hb6); have c6 : w6.cell? ⟨g', o', none⟩ = some (rvv r') := (HA6.out.2.cell (p := ⟨g', o', none⟩) hg').trans hc'; clear R6 hb6))
          go_region_law (refine step_pushK rfl (.tmp 34) (.tmp 43) 46 71 rfl _ 3 40 Try.underlying46 Try.info71 rfl (by decide) (by decide) w.heap.size VV E.length (E.flatMap evc) rfl w6.drew _ (evc ⟨1, m, r'⟩) rfl (one_evc _) rfl (HA6.out.bel (below_drewN (Below.refl _ _) 1)).1 (HA6.out.bel (below_drewN (Below.refl _ _) 1)).2.size w6.heap.size rfl rfl (by have := HEl.out; omega) (fun ge ce w' hv' hg => ?_); have HAF := Lib.hid (EvG.push (e := ⟨1, m, r'⟩) (HA6.out.bel (below_drewN (Below.refl _ _) 1)) ((Below.refl _ _).alloc (Nat.le_refl _) _) hv' rfl hg); clear hv' hg)
          all_goals
            go_wp2_with fail
            go_roundw
            case rel => exact ⟨k + 1, _, HKN.out, by go_num, rfl, by rw [HNX.out, HEV.out]; exact HAF.out⟩
            case measure => have := HKN.out; simp [intOf] <;> omega
        · simp only at hp hx hq hy
          subst hp hx hq hy
          simp only at HX HC c0 c1 c2 k51 k52
          go_wp2_with (first | ((with_reducible show wpList _ _ _ (Oper.mk _ (Op.alloc _) _ _ _ _ :: _) _ _); (refine wpList_new_row rfl rfl 87 5 (.tmp 11) rfl rfl rfl rfl gx HX.out #[.int .i64 m, .pointer (some ⟨g, o, none⟩), .pointer none] rfl rfl _ Try.z87 Try.n87 rfl (by simp [Value.oneCell']) ?_; refine wpList_atE HW5.out ?_)) | (go_at_call 31; refine HC.out.mono ?_; rintro e w6 ⟨rfl, hb6⟩; have R6 := HR5.out.below hb6 HR5.out.lt; have HR6 := Lib.hid R6; have k60 : w6.cell? ⟨gx, 0, none⟩ = some (.int .i64 m) := R6.cell 0; have k61 : w6.cell? ⟨gx, 1, none⟩ = some (.pointer (some ⟨g, o, none⟩)) := R6.cell 1; have HA6 := Lib.hid (HA5.out.bel hb6); have c6 : w6.cell? ⟨g, o, none⟩ = some (rvv r) := (HA6.out.2.cell (p := ⟨g, o, none⟩) hg).trans hc; clear R6 hb6))
          go_region_law (refine step_pushK rfl (.tmp 20) (.tmp 29) 46 71 rfl _ 3 40 Try.underlying46 Try.info71 rfl (by decide) (by decide) w.heap.size VV E.length (E.flatMap evc) rfl w6.drew _ (evc ⟨2, m, r⟩) rfl (one_evc _) rfl (HA6.out.bel (below_drewN (Below.refl _ _) 1)).1 (HA6.out.bel (below_drewN (Below.refl _ _) 1)).2.size w6.heap.size rfl rfl (by have := HEl.out; omega) (fun ge ce w' hv' hgr => ?_); have k72 : w'.cell? ⟨gx, 2, none⟩ = some (.pointer none) := (((HR6.out.below (below_drewN (Below.refl _ _) 1) HR6.out.lt).alloc _).grown hgr (fun e => by have := HNE.out gx e.symm; omega)).cell 2; have HAF := Lib.hid (EvG.push (e := ⟨2, m, r⟩) (HA6.out.bel (below_drewN (Below.refl _ _) 1)) ((Below.refl _ _).alloc (Nat.le_refl _) _) hv' rfl hgr); clear hv' hgr)
          all_goals
            go_wp2_with fail
            go_roundw
            case rel => exact ⟨k + 1, _, HKN.out, by go_num, rfl, by rw [HNX.out, HEV.out]; simpa [cameOf, wentOf] using HAF.out⟩
            case measure => have := HKN.out; simp [intOf] <;> omega
        · simp only at hp hx hq hy
          subst hp hx hq hy
          simp only at HX HC c0 c1 c2 k51 k52
          go_wp2_with (first | ((with_reducible show wpList _ _ _ (Oper.mk _ (Op.alloc _) _ _ _ _ :: _) _ _); (refine wpList_new_row rfl rfl 87 5 (.tmp 11) rfl rfl rfl rfl gx HX.out #[.int .i64 m, .pointer (some ⟨g, o, none⟩), .pointer (some ⟨g', o', none⟩)] rfl rfl _ Try.z87 Try.n87 rfl (by simp [Value.oneCell']) ?_; refine wpList_atE HW5.out ?_)) | (go_at_call 31; refine HC.out.mono ?_; rintro e w6 ⟨rfl, hb6⟩; have R6 := HR5.out.below hb6 HR5.out.lt; have HR6 := Lib.hid R6; have k60 : w6.cell? ⟨gx, 0, none⟩ = some (.int .i64 m) := R6.cell 0; have k61 : w6.cell? ⟨gx, 1, none⟩ = some (.pointer (some ⟨g, o, none⟩)) := R6.cell 1; have HA6 := Lib.hid (HA5.out.bel hb6); have c6 : w6.cell? ⟨g, o, none⟩ = some (rvv r) := (HA6.out.2.cell (p := ⟨g, o, none⟩) hg).trans hc; clear R6 hb6))
          go_region_law (refine step_pushK rfl (.tmp 20) (.tmp 29) 46 71 rfl _ 3 40 Try.underlying46 Try.info71 rfl (by decide) (by decide) w.heap.size VV E.length (E.flatMap evc) rfl w6.drew _ (evc ⟨2, m, r⟩) rfl (one_evc _) rfl (HA6.out.bel (below_drewN (Below.refl _ _) 1)).1 (HA6.out.bel (below_drewN (Below.refl _ _) 1)).2.size w6.heap.size rfl rfl (by have := HEl.out; omega) (fun ge ce w' hv' hgr => ?_); have R7 : Row w' gx 87 _ := ((HR6.out.below (below_drewN (Below.refl _ _) 1) HR6.out.lt).alloc _).grown hgr (fun e => by have := HNE.out gx e.symm; omega); have k70 : w'.cell? ⟨gx, 0, none⟩ = some (.int .i64 m) := R7.cell 0; have k72 : w'.cell? ⟨gx, 2, none⟩ = some (.pointer (some ⟨g', o', none⟩)) := R7.cell 2; have HAF := Lib.hid (EvG.push (e := ⟨2, m, r⟩) (HA6.out.bel (below_drewN (Below.refl _ _) 1)) ((Below.refl _ _).alloc (Nat.le_refl _) _) hv' rfl hgr); have HO2 := Lib.hid (show w'.drew.ownsRow w.heap.size 71 3 (.slice (some ⟨ge, 0, none⟩) (E.length + 1) ce) (E.length + 1) ((E ++ [Ev.mk 2 m r]).flatMap evc) from by have q := (HAF.out.bel (below_drewN (Below.refl _ _) 1)).1; rw [List.length_append] at q; exact q); have HS2 := Lib.hid (show w.heap.size ≤ w'.drew.heap.size from (HAF.out.bel (below_drewN (Below.refl _ _) 1)).2.size); have c7 : w'.cell? ⟨g', o', none⟩ = some (rvv r') := (HAF.out.2.cell (p := ⟨g', o', none⟩) hg').trans hc'; clear hv' hgr R7)
          all_goals
            go_wp2_with fail
            go_region_law (refine step_pushK rfl (.tmp 34) (.tmp 43) 46 71 rfl _ 3 40 Try.underlying46 Try.info71 rfl (by decide) (by decide) w.heap.size (.slice (some ⟨ge, 0, none⟩) (E.length + 1) ce) (E.length + 1) ((E ++ [Ev.mk 2 m r]).flatMap evc) rfl w'.drew _ (evc ⟨1, m, r'⟩) rfl (one_evc _) rfl HO2.out HS2.out w'.heap.size rfl rfl (by have := HEl.out; omega) (fun ge2 ce2 w9 hv9 hgr9 => ?_); have HAG := Lib.hid (EvG.push (e := ⟨1, m, r'⟩) (HAF.out.bel (below_drewN (Below.refl _ _) 1)) ((Below.refl _ _).alloc (Nat.le_refl _) _) hv9 (by simp) hgr9); clear hv9 hgr9)
            all_goals
              go_wp2_with fail
              go_roundw
              case rel => exact ⟨k + 1, _, HKN.out, by go_num, rfl, by rw [HNX.out, HEV.out]; simpa [cameOf, wentOf] using HAG.out⟩
              case measure => have := HKN.out; simp [intOf] <;> omega
    · have ki : ¬ (k : Int) < (n : Int) := by omega
      have HAE := Lib.hid (show EvG w (its.flatMap evOf) VV wr by have := hA; rw [List.take_of_length_le (by have := HN.out; omega)] at this; exact this)
      clear hA
      go_wp2_with fail
      first | go_ret | ((try simp only [Exit.inBlock, Exit.then]); go_ret)
      first | exact HAE.out | exact ⟨_, rfl, HAE.out⟩
end Go.Proofs.Ytkonoojmhjinpaa
