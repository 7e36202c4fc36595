/- Contracts: Feed. -/
import Derived.Test.YtkonoojmhjinpaaMg
import Derived.Test.YtkonoojmhjinpaaLv
import Derived.Test.YtkonoojmhjinpaaK5
set_option linter.all false
namespace Go.Proofs.Ytkonoojmhjinpaa
open Go.RowKit Go.Fen
set_option linter.unusedVariables false
set_option maxHeartbeats 4000000

theorem Try.z80 : (Try.prog.info? 80).bind (·.zero) = some (.slice none 0 0) := by kernel_rfl
/-- the events of what an item says -/
def evK (t : Int × Option Rv × Option Rv) : List Ev := if sameS t.2.1 t.2.2 then [] else wentOf t.1 t.2.1 ++ cameOf t.1 t.2.2
theorem mg_len {α β : Type} (f : α → Int) (g : β → Int) (A : List α) (B : List β) : (mg f g A B).length ≤ A.length + B.length := by
  fun_induction mg f g A B <;> simp_all <;> omega
theorem evOf_key (i : It) : evOf i = evK (keyI i) := rfl
theorem evs_key : ∀ its : List It, its.flatMap evOf = (its.map keyI).flatMap evK
  | [] => rfl
  | i :: its => by rw [List.flatMap_cons, List.map_cons, List.flatMap_cons, evs_key its, evOf_key]
/-- the feed between two tables -/
def feedE (L1 L2 : List Ln) : List Ev := ((mg Ln.n Ln.n L1 L2).map keyM).flatMap evK
theorem pt_rok {w : World} {p : Option Addr} {r : Rv} (h : Pt w p (some r)) : Rok w r := by
  rcases h with ⟨_, h⟩ | ⟨g, o, r', _, h, _, _, hr, _⟩
  · cases h
  · injection h with h; subst h; exact hr
theorem ev_rok {w : World} {i : It} (h : IOk w i) : ∀ e ∈ evOf i, Rok w e.r := by
  intro e he
  unfold evOf at he
  split at he
  · cases he
  · obtain ⟨n, p, q, x, y⟩ := i
    rcases List.mem_append.1 he with h1 | h1
    · cases x with
      | none => cases h1
      | some r => rw [List.mem_singleton.1 h1]; exact pt_rok h.1
    · cases y with
      | none => cases h1
      | some r => rw [List.mem_singleton.1 h1]; exact pt_rok h.2
set_option maxRecDepth 20000 in
theorem feed_any (v1 v2 : Value) (N1 N2 : Int) (L1 L2 : List Ln) (w : World) (hT1 : Tb w v1 N1 L1) (hT2 : Tb w v2 N2 L2) (hR1 : Rising N1 L1) (hR2 : Rising N2 L2) (h1 : 0 ≤ N1 ∧ N1 ≤ 1000000) (h2 : 0 ≤ N2 ∧ N2 ≤ 1000000) (hl1 : L1.length ≤ 1000) (hl2 : L2.length ≤ 1000) :
    Calls Try.prog 9 #[v1, v2] w fun e w' => ∃ a c n, e = .returned (.slice a n c) ∧ n = (feedE L1 L2).length ∧ Evs w' a (feedE L1 L2) ∧ Below w.heap.size w w' := by
  have HV1 := Lib.hid (fun w' (hb : Below w.heap.size w w') => valid_any v1 N1 L1 w' (hT1.bel hb) hR1 h1.1 h1.2 hl1)
  have HV2 := Lib.hid (fun w' (hb : Below w.heap.size w w') => valid_any v2 N2 L2 w' (hT2.bel hb) hR2 h2.1 h2.2 hl2)
  obtain ⟨a1, c1, rfl, hc1, hL1⟩ := hT1
  obtain ⟨a2, c2, rfl, hc2, hL2⟩ := hT2
  have HLs := Lib.hid (show Lns w a1 L1 ∧ Lns w a2 L2 ∧ L1.length ≤ c1 ∧ L2.length ≤ c2 ∧ L1.length ≤ 1000 ∧ L2.length ≤ 1000 ∧ (∀ l ∈ L1, 0 ≤ l.n ∧ l.n < 1000000) ∧ (∀ l ∈ L2, 0 ≤ l.n ∧ l.n < 1000000) from ⟨hL1, hL2, hc1, hc2, hl1, hl2, fun l hl => by have := hR1.1 l hl; omega, fun l hl => by have := hR2.1 l hl; omega⟩)
  obtain ⟨n1, hn1⟩ : ∃ n, n = L1.length := ⟨_, rfl⟩
  obtain ⟨n2, hn2⟩ : ∃ n, n = L2.length := ⟨_, rfl⟩
  rw [← hn1] at HV1 ⊢
  rw [← hn2] at HV2 ⊢
  obtain ⟨g, eg⟩ : ∃ g, g = w.heap.size := ⟨_, rfl⟩
  obtain ⟨W0, hW0⟩ : ∃ W, W = w.alloc (.cells #[.int .i64 N1, .slice a1 n1 c1] 38) := ⟨_, rfl⟩
  obtain ⟨W1, hW1⟩ : ∃ W, W = W0.alloc (.cells #[.int .i64 N2, .slice a2 n2 c2] 38) := ⟨_, rfl⟩
  have z0 : W0.heap.size = g + 1 := by rw [hW0, eg]; simp
  have b0 : Below w.heap.size w W1 := by rw [hW1, hW0]; exact ((Below.refl _ _).alloc (Nat.le_refl _) _).alloc (by simp) _
  have R0 : Row W1 g 38 #[.int .i64 N1, .slice a1 n1 c1] := by rw [hW1, hW0, eg]; exact (Row.new w 38 _).alloc _
  have R1 : Row W1 (g + 1) 38 #[.int .i64 N2, .slice a2 n2 c2] := by rw [hW1]; exact Row.new' 38 _ z0.symm
  have k00 : W1.cell? ⟨g, 0, none⟩ = some (.int .i64 N1) := R0.cell 0
  have k01 : W1.cell? ⟨g, 1, none⟩ = some (.slice a1 n1 c1) := R0.cell 1
  have HR0 := Lib.hid R0
  have HR1 := Lib.hid R1
  have HW0 := Lib.hid hW0
  have HW1 := Lib.hid hW1
  have EG := Lib.hid eg
  have Z0 := Lib.hid z0
  have HB := Lib.hid b0
  have HN1 := Lib.hid hn1
  have HN2 := Lib.hid hn2
  have HCA := Lib.hid (HV1.out W1 b0)
  clear hW0 hW1 eg z0 b0 R0 R1 hL1 hL2 hn1 hn2 hc1 hc2 hR1 hR2 h1 h2 hl1 hl2
  go_enter Try.func9, Try.ntmps9
  go_wp2_with (first | ((with_reducible show wpList _ _ _ (Oper.mk _ (Op.box _ _) _ _ _ _ :: _) _ _); (first | (refine wpList_box_row rfl 38 (.tmp 0) rfl _ rfl g EG.out ?_; refine wpList_atE HW0.out ?_) | (refine wpList_box_row rfl 38 (.tmp 1) rfl _ rfl (g + 1) Z0.out.symm ?_; refine wpList_atE HW1.out ?_))))
  refine HCA.out.mono ?_
  rintro e w2 ⟨rfl, hb2⟩
  have R0' := HR0.out.below hb2 HR0.out.lt
  have R1' := HR1.out.below hb2 HR1.out.lt
  have HB2 := Lib.hid (bel_tr HB.out hb2)
  have HRR := Lib.hid (And.intro R0' R1')
  have k10 : w2.cell? ⟨g + 1, 0, none⟩ = some (.int .i64 N2) := R1'.cell 0
  have k11 : w2.cell? ⟨g + 1, 1, none⟩ = some (.slice a2 n2 c2) := R1'.cell 1
  have HCB := Lib.hid (HV2.out w2 HB2.out)
  clear R0' R1' hb2 k00 k01
  go_wp2_with fail
  refine HCB.out.mono ?_
  rintro e w3 ⟨rfl, hb3⟩
  obtain ⟨gv, hgv⟩ : ∃ x, x = w3.heap.size := ⟨_, rfl⟩
  obtain ⟨V0, hV0⟩ : ∃ W, W = w3.alloc (.cells #[.slice none 0 0] 80) := ⟨_, rfl⟩
  have b3 : Below w3.heap.size w3 V0 := by rw [hV0]; exact (Below.refl _ _).alloc (Nat.le_refl _) _
  have b23 := bel_tr hb3 b3
  have R0' := HRR.out.1.below b23 HRR.out.1.lt
  have R1' := HRR.out.2.below b23 HRR.out.2.lt
  have RV : Row V0 gv 80 #[.slice none 0 0] := by rw [hV0]; exact Row.new' 80 _ hgv
  have k00 : V0.cell? ⟨g, 1, none⟩ = some (.slice a1 n1 c1) := R0'.cell 1
  have k01 : V0.cell? ⟨g + 1, 1, none⟩ = some (.slice a2 n2 c2) := R1'.cell 1
  have A0 : AccG V0 gv 80 mkR 87 3 (.slice none 0 0) 0 (([] : List It).flatMap itc) V0 := ⟨World.ownsRow_nil _ _ _ _, RV, grown_refl _ _⟩
  have hgs : gv < V0.heap.size := by rw [hgv, hV0]; simp
  have HBV := Lib.hid (bel_tr HB2.out b23)
  have HM := Lib.hid (merge_any V0 gv (.slice none 0 0) L1 L2 a1 a2 c1 c2 V0 hgs RV A0 (HLs.out.1.bel HBV.out) (HLs.out.2.1.bel HBV.out) HLs.out.2.2.1 HLs.out.2.2.2.1 HLs.out.2.2.2.2.1 HLs.out.2.2.2.2.2.1 HLs.out.2.2.2.2.2.2.1 HLs.out.2.2.2.2.2.2.2)
  rw [← HN1.out, ← HN2.out] at HM
  have HGV := Lib.hid hgv
  have HV0 := Lib.hid hV0
  have HRV := Lib.hid RV
  have HGS := Lib.hid hgs
  have HGB := Lib.hid (show w.heap.size ≤ gv by rw [hgv]; exact Nat.le_trans HB2.out.size hb3.size)
  clear hgv hV0 b3 b23 R0' R1' RV A0 hgs hb3 k10 k11
  go_wp2_with (first | ((with_reducible show wpList _ _ _ (Oper.mk _ (Op.alloc _) _ _ _ _ :: _) _ _); (refine wpList_alloc_val rfl 80 rfl (.slice none 0 0) Try.z80 gv HGV.out ?_; refine wpList_atE HV0.out ?_)))
  refine HM.out.mono ?_
  rintro e w4 ⟨rfl, u, its, hA, hok, hkey⟩
  obtain ⟨ai, ci, rfl, hlt⟩ := lt_of_own length_itc hA.1 rfl
  have hil : its.length = (mg Ln.n Ln.n L1 L2).length := by have := congrArg List.length hkey; simpa using this
  have hml : (mg Ln.n Ln.n L1 L2).length ≤ 2000 := by have := mg_len Ln.n Ln.n L1 L2; have := HLs.out.2.2.2.2; omega
  have hok4 : ∀ i ∈ its, IOk w4 i := fun i hi => ⟨hA.pt HRV.out (by decide) (by decide) (by decide) (hok i hi).1, hA.pt HRV.out (by decide) (by decide) (by decide) (hok i hi).2⟩
  have k40 : w4.cell? ⟨gv, 0, none⟩ = some (.slice ai its.length ci) := hA.2.1.cell 0
  have HEV := Lib.hid (events_any ai its its.length ci w4 rfl hlt hok4 (by omega))
  have HB4 := Lib.hid (HBV.out.trans (hA.bel HGB.out HBV.out.size))
  have HK := Lib.hid hkey
  have HOK := Lib.hid hok4
  clear hlt hok4 hA hok hkey hil hml
  go_wp2_with fail
  refine HEV.out.mono ?_
  rintro e w5 ⟨v, rfl, hE⟩
  obtain ⟨ae, ce, rfl, hlt⟩ := lt_of_own length_evc hE.1 rfl
  have HFIN := Lib.hid (show (its.flatMap evOf).length = (feedE L1 L2).length ∧ Evs w5 ae (feedE L1 L2) ∧ Below w.heap.size w w5 from by
    have q : its.flatMap evOf = feedE L1 L2 := by rw [evs_key, HK.out]; rfl
    rw [← q]
    refine ⟨rfl, ⟨hlt, fun e he => ?_⟩, bel_tr HB4.out hE.2⟩
    obtain ⟨i, hi, he2⟩ := List.mem_flatMap.1 he
    exact ev_rok ((HOK.out i hi).bel hE.2) e he2)
  clear hlt hE
  go_wp2_with fail
  first | go_ret | ((try simp only [Exit.inBlock, Exit.then]); go_ret)
  exact ⟨_, _, _, rfl, by have q := HFIN.out.1; rw [List.length_flatMap] at q; exact q, HFIN.out.2⟩
end Go.Proofs.Ytkonoojmhjinpaa
