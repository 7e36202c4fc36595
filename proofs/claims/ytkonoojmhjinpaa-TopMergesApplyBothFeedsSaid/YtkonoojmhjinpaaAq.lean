/- Contracts: Apply. Contracts: Apply, walked. -/
import Derived.Test.YtkonoojmhjinpaaMi
set_option linter.all false
namespace Go.Proofs.Ytkonoojmhjinpaa
open Go.RowKit Go.Fen
set_option linter.unusedVariables false
set_option maxHeartbeats 4000000

theorem Try.z4 : (Try.prog.info? 4).bind (·.zero) = some (.bool false) := by kernel_rfl
theorem mg_map {α β γ : Type} (f : α → Int) (g : γ → Int) (h : β → γ) (A : List α) (B : List β) : mg f g A (B.map h) = (mg f (fun b => g (h b)) A B).map fun t => (t.1, t.2.1, t.2.2.map h) := by
  fun_induction mg f (fun b => g (h b)) A B <;> simp_all [mg]
  rw [if_neg (by omega), if_neg (by omega)]
theorem mg_mem {α β : Type} (f : α → Int) (g : β → Int) (A : List α) (B : List β) : ∀ t ∈ mg f g A B, (∀ x, t.2.1 = some x → x ∈ A) ∧ (∀ y, t.2.2 = some y → y ∈ B) := by
  fun_induction mg f g A B
  · simp
  all_goals
    rename_i ih
    intro t ht
    rcases List.mem_cons.1 ht with e | ht
    · subst e; simp
    · have := ih t ht
      refine ⟨fun x hx => ?_, fun y hy => ?_⟩
      · first | exact this.1 x hx | exact List.mem_cons_of_mem _ (this.1 x hx)
      · first | exact this.2 y hy | exact List.mem_cons_of_mem _ (this.2 y hy)
/-- the state behind an entry, of keys -/
def apK (st : Int × Bool × List Ln) (t : Int × Option Ln × Option (Int × Option Rv × Option Rv)) : Int × Bool × List Ln :=
  apS st (t.1, t.2.1, t.2.2.map fun k => It.mk k.1 none none k.2.1 k.2.2)
/-- what Apply reckons -/
def applyR (N : Int) (L : List Ln) (E : List Ev) : Int × Bool × List Ln := (mg Ln.n (·.1) L (itemsK E)).foldl apK (N, false, [])
theorem apply_key (N : Int) (L : List Ln) (E : List Ev) (its : List It) (h : its.map keyI = itemsK E) : (mg Ln.n It.n L its).foldl apS (N, false, []) = applyR N L E := by
  unfold applyR
  rw [← h, mg_map]
  rw [List.foldl_map]
  have e : (fun (x : Int × Bool × List Ln) (y : Int × Option Ln × Option It) => apK x (y.1, y.2.1, y.2.2.map keyI)) = apS := by
    funext st t
    obtain ⟨a, b, c⟩ := t
    cases c <;> rfl
  rw [e]
  rfl
end Go.Proofs.Ytkonoojmhjinpaa

set_option linter.all false
namespace Go.Proofs.Ytkonoojmhjinpaa
open Go.RowKit Go.Fen
set_option linter.unusedVariables false
set_option maxHeartbeats 4000000

theorem setK_n (t : Int × Option Rv × Option Rv) (e : Ev) : (setK t e).1 = t.1 := by unfold setK; split <;> rfl
/-- an item's number is an event's -/
theorem stepI_n (acc : List (Int × Option Rv × Option Rv)) (e : Ev) : ∀ t ∈ stepI acc e, t.1 = e.n ∨ ∃ t' ∈ acc, t'.1 = t.1 := by
  intro t ht
  unfold stepI at ht
  split at ht
  · rename_i t' h'
    split at ht
    · rename_i hn
      rcases List.mem_append.1 ht with q | q
      · exact .inr ⟨t, List.dropLast_subset _ q, rfl⟩
      · rw [List.mem_singleton.1 q, setK_n]; exact .inl hn
    · rcases List.mem_append.1 ht with q | q
      · exact .inr ⟨t, q, rfl⟩
      · rw [List.mem_singleton.1 q, setK_n]; exact .inl rfl
  · rw [List.mem_singleton.1 ht, setK_n]; exact .inl rfl
theorem foldI_n : ∀ (E : List Ev) (acc : List (Int × Option Rv × Option Rv)), ∀ t ∈ E.foldl stepI acc, (∃ e ∈ E, t.1 = e.n) ∨ ∃ t' ∈ acc, t'.1 = t.1
  | [], acc, t, ht => .inr ⟨t, ht, rfl⟩
  | e :: E, acc, t, ht => by
    rcases foldI_n E (stepI acc e) t ht with ⟨e', he, h⟩ | ⟨t', ht', h⟩
    · exact .inl ⟨e', by simp [he], h⟩
    · rcases stepI_n acc e t' ht' with h2 | ⟨t2, h3, h4⟩
      · exact .inl ⟨e, by simp, h.symm.trans h2⟩
      · exact .inr ⟨t2, h3, h4.trans h⟩
theorem itemsK_n (E : List Ev) (t : Int × Option Rv × Option Rv) (ht : t ∈ itemsK E) : ∃ e ∈ E, t.1 = e.n := by
  rcases foldI_n E [] t ht with h | ⟨t', h, _⟩
  · exact h
  · cases h
theorem outOf_mem {m : Int} {x : Option Rv} {l : Ln} (h : l ∈ outOf m x) : x = some l.r := by
  cases x with
  | none => cases h
  | some r => rw [List.mem_singleton.1 h]
/-- each row of the outcome is a line's or an item's -/
theorem fold_rows (P : Rv → Prop) : ∀ (T : List (Int × Option Ln × Option It)) (st : Int × Bool × List Ln), (∀ t ∈ T, (∀ x, t.2.1 = some x → P x.r) ∧ ∀ y, t.2.2 = some y → ∀ r, y.y = some r → P r) → (∀ l ∈ st.2.2, P l.r) → ∀ l ∈ (T.foldl apS st).2.2, P l.r
  | [], st, _, h => h
  | t :: T, st, hT, h => by
    refine fold_rows P T (apS st t) (fun t' ht' => hT t' (by simp [ht'])) ?_
    intro l hl
    rcases List.mem_append.1 hl with q | q
    · exact h l q
    · have e := outOf_mem q
      obtain ⟨h1, h2⟩ := hT t (by simp)
      obtain ⟨a, b, c⟩ := t
      cases c with
      | none =>
        cases b with
        | none => cases e
        | some x => injection e with e; rw [← e]; exact h1 x rfl
      | some y => exact h2 y rfl l.r e
theorem FeedOk.mem {E : List Ev} (h : FeedOk E) {e : Ev} (he : e ∈ E) : 0 ≤ e.n ∧ e.n < 1000000 := by
  obtain ⟨i, hi⟩ := List.getElem?_of_mem he
  have := h i e hi
  exact ⟨this.2.1, this.2.2.1⟩
theorem its_n {E : List Ev} (h : FeedOk E) {its : List It} (hk : its.map keyI = itemsK E) : ∀ i ∈ its, 0 ≤ i.n ∧ i.n < 1000000 := by
  intro i hi
  obtain ⟨e, he, hn⟩ := itemsK_n E (keyI i) (by rw [← hk]; exact List.mem_map_of_mem hi)
  have := h.mem he
  have hn : i.n = e.n := hn
  omega
theorem accX0 {w : World} {gv gg : Nat} {N : Int} (h1 : Row w gv 38 #[.int .i64 N, .slice none 0 0]) (h2 : Row w gg 4 #[.bool false]) (hne : gv ≠ gg) : AccX w gv gg N (.slice none 0 0) false [] w :=
  ⟨World.ownsRow_nil _ _ _ _, h1, h2, ⟨rfl, rfl, rfl, Nat.le_refl _, fun _ _ _ _ => rfl⟩, h1.lt, h2.lt, hne, ⟨_, _, h1⟩, ⟨_, _, h2⟩⟩
/-- what Apply returns -/
def ApR (r : Int × Bool × List Ln) (e : Ending) (w' : World) : Prop := (r.2.1 = true ∧ e = .returned (.tuple #[.agg #[.int .i64 0, .slice none 0 0], .int .i64 300])) ∨ (r.2.1 = false ∧ ∃ v', e = .returned (.tuple #[v', .int .i64 0]) ∧ Tb w' v' r.1 r.2.2)
set_option maxRecDepth 20000 in
theorem lapply_any (v : Value) (N : Int) (L : List Ln) (a : Option Addr) (E : List Ev) (n c : Nat) (w : World) (hT : Tb w v N L) (hR : Rising N L) (h0 : 0 ≤ N) (h1 : N ≤ 1000000) (hl : L.length ≤ 1000) (hn : n = E.length) (hE : Evs w a E) (hF : FeedOk E) (hL : n ≤ 3000) :
    Calls Try.prog 11 #[v, .slice a n c] w fun e w' => ApR (applyR N L E) e w' ∧ Below w.heap.size w w' := by
  have HV := Lib.hid (fun w' (hb : Below w.heap.size w w') => valid_any v N L w' (hT.bel hb) hR h0 h1 hl)
  have HI := Lib.hid (fun w' (hb : Below w.heap.size w w') => isFeed_any a E n c w' hn (hE.bel hb) hF (by omega))
  have HM := Lib.hid (fun w' (hb : Below w.heap.size w w') => items_any a E n c w' hn (hE.bel hb) (by omega))
  have HFE := Lib.hid hF
  obtain ⟨a1, c1, rfl, hc1, hL1⟩ := hT
  have HLs := Lib.hid (show Lns w a1 L ∧ L.length ≤ c1 ∧ L.length ≤ 1000 ∧ (∀ l ∈ L, 0 ≤ l.n ∧ l.n < 1000000) ∧ 0 ≤ N ∧ N ≤ 1000000 ∧ n ≤ 3000 from ⟨hL1, hc1, hl, fun l hl => by have := hR.1 l hl; omega, h0, h1, hL⟩)
  obtain ⟨n1, hn1⟩ : ∃ n, n = L.length := ⟨_, rfl⟩
  rw [← hn1] at HV ⊢
  obtain ⟨g, eg⟩ : ∃ g, g = w.heap.size := ⟨_, rfl⟩
  obtain ⟨W0, hW0⟩ : ∃ W, W = w.alloc (.cells #[.int .i64 N, .slice a1 n1 c1] 38) := ⟨_, rfl⟩
  obtain ⟨W1, hW1⟩ : ∃ W, W = W0.alloc (.cells #[.int .i64 0, .slice none 0 0] 38) := ⟨_, rfl⟩
  have z0 : W0.heap.size = g + 1 := by rw [hW0, eg]; simp
  have b0 : Below w.heap.size w W1 := by rw [hW1, hW0]; exact ((Below.refl _ _).alloc (Nat.le_refl _) _).alloc (by simp) _
  have R0 : Row W1 g 38 #[.int .i64 N, .slice a1 n1 c1] := by rw [hW1, hW0, eg]; exact (Row.new w 38 _).alloc _
  have R1 : Row W1 (g + 1) 38 #[.int .i64 0, .slice none 0 0] := by rw [hW1]; exact Row.new' 38 _ z0.symm
  have k00 : W1.cell? ⟨g, 0, none⟩ = some (.int .i64 N) := R0.cell 0
  have k01 : W1.cell? ⟨g, 1, none⟩ = some (.slice a1 n1 c1) := R0.cell 1
  have HR0 := Lib.hid R0
  have HR1 := Lib.hid R1
  have HW0 := Lib.hid hW0
  have HW1 := Lib.hid hW1
  have EG := Lib.hid eg
  have Z0 := Lib.hid z0
  have HB := Lib.hid b0
  have HN1 := Lib.hid hn1
  have HCA := Lib.hid (HV.out W1 b0)
  clear hW0 hW1 eg z0 b0 R0 R1 hL1 hn1 hc1 hR h0 h1 hl hn hE hF hL
  go_enter Try.func11, Try.ntmps11
  go_wp2_with (first | ((with_reducible show wpList _ _ _ (Oper.mk _ (Op.box _ _) _ _ _ _ :: _) _ _); (refine wpList_box_row rfl 38 (.tmp 0) rfl _ rfl g EG.out ?_; refine wpList_atE HW0.out ?_)) | ((with_reducible show wpList _ _ _ (Oper.mk _ (Op.alloc _) _ _ _ _ :: _) _ _); (refine wpList_alloc_row rfl 38 rfl #[.int .i64 0, .slice none 0 0] Try.z38 (g + 1) Z0.out.symm ?_; refine wpList_atE HW1.out ?_)))
  refine HCA.out.mono ?_
  rintro e w2 ⟨rfl, hb2⟩
  have HR0 := Lib.hid (HR0.out.below hb2 HR0.out.lt)
  have HR1 := Lib.hid (HR1.out.below hb2 HR1.out.lt)
  have HB := Lib.hid (bel_tr HB.out hb2)
  have HCI := Lib.hid (HI.out w2 HB.out)
  clear hb2 k00 k01
  go_wp2_with fail
  refine HCI.out.mono ?_
  rintro e w3 ⟨rfl, hb3⟩
  have HR0 := Lib.hid (HR0.out.below hb3 HR0.out.lt)
  have HR1 := Lib.hid (HR1.out.below hb3 HR1.out.lt)
  have HB := Lib.hid (bel_tr HB.out hb3)
  have k00 : w3.cell? ⟨g, 0, none⟩ = some (.int .i64 N) := HR0.out.cell 0
  obtain ⟨gv, hgv⟩ : ∃ x, x = w3.heap.size := ⟨_, rfl⟩
  obtain ⟨W4, hW4⟩ : ∃ W, W = w3.alloc (.cells #[.int .i64 N, .slice none 0 0] 38) := ⟨_, rfl⟩
  obtain ⟨gg, hgg⟩ : ∃ x, x = W4.heap.size := ⟨_, rfl⟩
  obtain ⟨W5, hW5⟩ : ∃ W, W = W4.alloc (.cells #[.bool false] 4) := ⟨_, rfl⟩
  have b4 : Below w3.heap.size w3 W4 := by rw [hW4]; exact (Below.refl _ _).alloc (Nat.le_refl _) _
  have b5 : Below W4.heap.size W4 W5 := by rw [hW5]; exact (Below.refl _ _).alloc (Nat.le_refl _) _
  have RV : Row W4 gv 38 #[.int .i64 N, .slice none 0 0] := by rw [hW4]; exact Row.new' 38 _ hgv
  have RG : Row W5 gg 4 #[.bool false] := by rw [hW5]; exact Row.new' 4 _ hgg
  have f5 : W5.frozen? ⟨gg, 0, none⟩ = false := RG.frozen 0
  have c5 : W5.cell? ⟨gg, 0, none⟩ = some (.bool false) := RG.cell 0
  have HGV := Lib.hid hgv
  have HGG := Lib.hid hgg
  have HW4 := Lib.hid hW4
  have HW5 := Lib.hid hW5
  have RV5 := RV.below b5 RV.lt
  have R05 := HR0.out.below (bel_tr b4 b5) HR0.out.lt
  have R15 := HR1.out.below (bel_tr b4 b5) HR1.out.lt
  have gvg : gv < gg := by rw [hgg]; exact RV.lt
  have g1v : g + 1 < gv := by rw [hgv]; exact HR1.out.lt
  obtain ⟨W6, hW6⟩ : ∃ W, W = W5.setCell ⟨gg, 0, none⟩ (.bool false) := ⟨_, rfl⟩
  have RG6 : Row W6 gg 4 #[.bool false] := by rw [hW6]; exact RG.set 0 _
  have b6 : Below gg W5 W6 := by rw [hW6]; exact (Below.refl gg W5).setCell (show gg ≤ (⟨gg, 0, none⟩ : Addr).block from Nat.le_refl _) (.bool false)
  have RV6 := RV5.below b6 gvg
  have R06 := R05.below b6 (by omega)
  have R16 := R15.below b6 (by omega)
  have HB6 := Lib.hid (show Below w.heap.size w W6 from (bel_tr HB.out (bel_tr b4 b5)).trans (b6.mono (by rw [hgg]; exact Nat.le_trans HB.out.size b4.size)))
  have HR6 := Lib.hid (show Row W6 g 38 #[.int .i64 N, .slice a1 n1 c1] ∧ Row W6 (g + 1) 38 #[.int .i64 0, .slice none 0 0] ∧ Row W6 gv 38 #[.int .i64 N, .slice none 0 0] ∧ Row W6 gg 4 #[.bool false] ∧ g + 1 < gv ∧ gv < gg ∧ w.heap.size ≤ gv from ⟨R06, R16, RV6, RG6, g1v, gvg, by rw [hgv]; exact HB.out.size⟩)
  have HW6 := Lib.hid hW6
  clear hb3 hgv hW4 hgg hW5 b4 b5 RV RG RV5 R05 R15 gvg g1v RG6 b6 RV6 R06 R16 hW6
  go_upto_region 7 with (first | ((with_reducible show wpList _ _ _ (Oper.mk _ (Op.alloc _) _ _ _ _ :: _) _ _); (first | (refine wpList_new_row rfl rfl 38 6 (.tmp 20) rfl rfl rfl rfl gv HGV.out #[.int .i64 N, .slice none 0 0] rfl rfl _ Try.z38 Try.n38 rfl (by simp [Value.oneCell']) ?_; refine wpList_atE HW4.out ?_) | (refine wpList_alloc_val rfl 4 rfl (.bool false) Try.z4 gg HGG.out ?_; refine wpList_atE HW5.out ?_))))
  try simp only [Act.put, List.setIfInBounds_toArray, List.set_cons_zero, List.set_cons_succ]
  rw [← HW6.out]
  have k61 : W6.cell? ⟨g, 1, none⟩ = some (.slice a1 n1 c1) := HR6.out.1.cell 1
  have hbd := below_drewN (Below.refl W6.heap.size W6) 1
  have HBD := Lib.hid hbd
  have HIT := Lib.hid (HM.out (W6.drewN 1) (HB6.out.trans (hbd.mono HB6.out.size)))
  clear hbd f5 c5 k00
  go_region_law (first | (go_simp; go_at_call 28; refine HIT.out.mono ?_; rintro e w6 ⟨vi, its, rfl, hI, hok, hkey, hlen⟩; obtain ⟨ai, ci, rfl, hlt⟩ := lt_of_own length_itc hI.1 rfl; obtain ⟨pi, ci', e5, hci⟩ := own_cap hI.1; have b66 := HBD.out.trans hI.2; have r0 := HR6.out.1.below b66 HR6.out.1.lt; have HR7 := Lib.hid (show Row w6 (g + 1) 38 #[.int .i64 0, .slice none 0 0] ∧ Row w6 gv 38 #[.int .i64 N, .slice none 0 0] ∧ Row w6 gg 4 #[.bool false] from ⟨HR6.out.2.1.below b66 HR6.out.2.1.lt, HR6.out.2.2.1.below b66 HR6.out.2.2.1.lt, HR6.out.2.2.2.1.below b66 HR6.out.2.2.2.1.lt⟩); have k71 : w6.cell? ⟨g, 1, none⟩ = some (.slice a1 n1 c1) := r0.cell 1; have HB7 := Lib.hid (HB6.out.trans (b66.mono HB6.out.size)); have HK := Lib.hid hkey; have HITS := Lib.hid (show ITs w6 ai its from ⟨hlt, fun i hi => (hok i hi).bel hI.2⟩); have HLN := Lib.hid hlen; have HM2 := Lib.hid (merge2_any w6 gv gg N (.slice none 0 0) L its a1 ai c1 ci w6 (accX0 HR7.out.2.1 HR7.out.2.2 (by have := HR6.out.2.2.2.2.2.1; omega)) (HLs.out.1.bel HB7.out) HITS.out HLs.out.2.1 (by injection e5 with _ _ e6; omega) HLs.out.2.2.1 (by have := HLs.out.2.2.2.2.2.2; omega) HLs.out.2.2.2.1 (its_n HFE.out hkey) HLs.out.2.2.2.2.1 HLs.out.2.2.2.2.2.1); rw [← HN1.out] at HM2; clear hI hok hkey hlt e5 hci b66 r0 hlen) | (go_simp; go_at_call 27; refine HM2.out.mono ?_; rintro e w7 ⟨rfl, N', u', b', L', hA', hres, hlen'⟩; have HA7 := Lib.hid hA'; have HRES := Lib.hid (show applyR N L E = (N', b', L') from by rw [← apply_key N L E its HK.out]; exact hres); have k72 : w7.cell? ⟨gg, 0, none⟩ = some (.bool b') := hA'.gap.cell 0; have k73 : w7.cell? ⟨gv, 1, none⟩ = some u' := hA'.tab.cell 1; have HL7 := Lib.hid hlen'; clear hA' hres hlen'))
  all_goals
    have b67 := HA7.out.bel (B := gv) (Nat.le_refl _) (by have := HR6.out.2.2.2.2.2.1; omega)
    have HR8 := Lib.hid (show Row w7 (g + 1) 38 #[.int .i64 0, .slice none 0 0] from HR7.out.1.below b67 HR6.out.2.2.2.2.1)
    have HB8 := Lib.hid (show Below w.heap.size w w7 from HB7.out.trans (b67.mono HR6.out.2.2.2.2.2.2))
    clear b67
    cases hb' : b' with
    | true =>
      rw [hb'] at k72
      have HRB := Lib.hid (show applyR N L E = (N', true, L') from by rw [← hb']; exact HRES.out)
      clear hb'
      go_wp2_with (first | ((with_reducible show wpList _ _ _ (Oper.mk _ (Op.store _ _ _) _ _ _ _ :: _) _ _); refine wpList_put_arr rfl 38 (.tmp 4) (.tmp 29) rfl rfl (g + 1) 38 _ #[.int .i64 0, .slice none 0 0] rfl rfl HR8.out Try.n38 rfl (by simp [Value.oneCell']) ?_))
      try simp only [Exit.inBlock, Exit.then]
      refine bodyPost_ret (results_cell_slot (p := 4) (q := 5) (ty := 38) rfl _ _ (g + 1) 38 #[.int .i64 0, .slice none 0 0] (0, 0) _ rfl (Row.setRow HR8.out _) Try.underlying38 rfl Try.n38) rfl ?_
      exact ⟨.inl ⟨by rw [HRB.out], rfl⟩, below_putRow HB8.out (by have := EG.out; omega) _⟩
    | false =>
      rw [hb'] at k72
      have HRB := Lib.hid (show applyR N L E = (N', false, L') from by rw [← hb']; exact HRES.out)
      clear hb'
      obtain ⟨ax, cx, ev, hcap, hlt⟩ := lns_put HA7.out.own (show g + 1 < w6.heap.size by have := HR7.out.1.lt; omega) #[.int .i64 N', u']
      have hok : ∀ l ∈ L', Rok (w7.setRow (g + 1) #[.int .i64 N', u']) l.r := fun l hl => by
        have q := fold_rows (Rok w6) (mg Ln.n It.n L its) (N, false, []) (fun t ht => ⟨fun x hx => (HLs.out.1.bel HB7.out).2 x ((mg_mem _ _ _ _ t ht).1 x hx), fun y hy r hr => by
          have := (HITS.out.2 y ((mg_mem _ _ _ _ t ht).2 y hy)).2
          rw [hr] at this
          exact pt_rok this⟩) (by simp) l (by rw [apply_key N L E its HK.out, HRES.out]; exact hl)
        exact (q.keep (HA7.out.keeps 58 (by decide) (by decide))).put HR8.out (by decide) _
      have HFIN := Lib.hid (show Tb (w7.setRow (g + 1) #[.int .i64 N', u']) (.agg #[.int .i64 N', u']) N' L' ∧ Below w.heap.size w (w7.setRow (g + 1) #[.int .i64 N', u']) from ⟨⟨ax, cx, by rw [ev], hcap, hlt, hok⟩, below_putRow HB8.out (by have := EG.out; omega) _⟩)
      have HONE := Lib.hid (show (#[Value.int .i64 N', u']).all (·.oneCell') = true by rw [ev]; simp [Value.oneCell'])
      have hl7 : L'.length ≤ 4096 := by have := HL7.out; have := HLN.out; have := HLs.out.2.2.1; have := HLs.out.2.2.2.2.2.2; have := HN1.out; omega
      obtain ⟨au, cu, eu⟩ := owns_form HA7.out.own
      rw [eu] at k73
      clear ev hcap hlt hok eu
      go_wp2_with (first | ((with_reducible show wpList _ _ _ (Oper.mk _ (Op.load _ _) _ _ _ _ :: _) _ _); refine wpList_load_row rfl 38 (.tmp 6) rfl gv rfl 38 #[.int .i64 N', u'] (0, 0) _ HA7.out.tab Try.underlying38 rfl Try.n38 ?_) | ((with_reducible show wpList _ _ _ (Oper.mk _ (Op.store _ _ _) _ _ _ _ :: _) _ _); refine wpList_put_arr rfl 38 (.tmp 4) (.tmp 36) rfl rfl (g + 1) 38 _ #[.int .i64 N', u'] rfl rfl HR8.out Try.n38 rfl HONE.out ?_))
      try simp only [Exit.inBlock, Exit.then]
      refine bodyPost_ret (results_cell_slot (p := 4) (q := 5) (ty := 38) rfl _ _ (g + 1) 38 #[.int .i64 N', u'] (0, 0) _ rfl (Row.setRow HR8.out _) Try.underlying38 rfl Try.n38) rfl ?_
      exact ⟨.inr ⟨by rw [HRB.out], _, rfl, by rw [HRB.out]; exact HFIN.out.1⟩, HFIN.out.2⟩
end Go.Proofs.Ytkonoojmhjinpaa
