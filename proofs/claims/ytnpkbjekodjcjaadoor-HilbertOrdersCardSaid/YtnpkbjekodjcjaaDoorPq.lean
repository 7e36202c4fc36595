/- Order and its reference, in one form. -/
import Derived.Test.YtnpkbjekodjcjaaDoorOq
import Derived.Test.YtnpkbjekodjcjaaDoorSk
import Derived.Test.YtnpkbjekodjcjaaDoorS
set_option linter.all false
namespace Go.Proofs.YtnpkbjekodjcjaaDoor
open Go.RowKit Go.Fen Hil
set_option linter.unusedVariables false
set_option maxHeartbeats 4000000

theorem order_bad (a : Option Addr) (n c : Nat) (id0 id1 k : Int) (w : World) (hk : ¬ (1 ≤ k ∧ k ≤ 16)) :
    Calls Tryd.prog 18 #[.slice a n c, .agg #[.int .i64 id0, .int .i64 id1], .int .i64 k] w fun e w' => e = .returned (.tuple #[.slice none 0 0, .int .i64 1]) ∧ Below w.heap.size w w' := by
  obtain ⟨g, eg⟩ : ∃ g, g = w.heap.size := ⟨_, rfl⟩
  obtain ⟨W0, hW0⟩ : ∃ W, W = w.alloc (.cells #[.int .i64 id0, .int .i64 id1] 45) := ⟨_, rfl⟩
  have hb : Below w.heap.size w W0 := by rw [hW0]; exact (Below.refl _ _).alloc (Nat.le_refl _) _
  have RR := right_any k W0
  rw [decide_eq_false hk] at RR
  have HRR := Lib.hid RR
  have HW0 := Lib.hid hW0
  have EG := Lib.hid eg
  have HB := Lib.hid hb
  clear RR hW0 eg hb hk
  go_enter Tryd.func18, Tryd.ntmps18
  go_wp2_with (first | ((with_reducible show wpList _ _ _ (Oper.mk _ (Op.box _ _) _ _ _ _ :: _) _ _); (refine wpList_box_row rfl 45 (.tmp 1) rfl _ rfl g EG.out ?_; refine wpList_atE HW0.out ?_)))
  refine HRR.out.mono ?_
  rintro e w1 ⟨rfl, rfl⟩
  go_wp2_with fail
  go_ret2
  exact ⟨rfl, HB.out⟩

theorem rorder_bad (a : Option Addr) (n c : Nat) (id0 id1 k : Int) (w : World) (hk : ¬ (1 ≤ k ∧ k ≤ 16)) :
    Calls Tryd.prog 19 #[.slice a n c, .agg #[.int .i64 id0, .int .i64 id1], .int .i64 k] w fun e w' => e = .returned (.tuple #[.slice none 0 0, .int .i64 1]) ∧ Below w.heap.size w w' := by
  obtain ⟨g, eg⟩ : ∃ g, g = w.heap.size := ⟨_, rfl⟩
  obtain ⟨W0, hW0⟩ : ∃ W, W = w.alloc (.cells #[.int .i64 id0, .int .i64 id1] 45) := ⟨_, rfl⟩
  have hb : Below w.heap.size w W0 := by rw [hW0]; exact (Below.refl _ _).alloc (Nat.le_refl _) _
  have HW0 := Lib.hid hW0
  have EG := Lib.hid eg
  have HB := Lib.hid hb
  by_cases h1 : k < 1
  · have d1 : decide (k < 1) = true := decide_eq_true h1
    clear hW0 eg hb hk
    go_enter Tryd.func19, Tryd.ntmps19
    go_wp2_with (first | ((with_reducible show wpList _ _ _ (Oper.mk _ (Op.box _ _) _ _ _ _ :: _) _ _); (refine wpList_box_row rfl 45 (.tmp 1) rfl _ rfl g EG.out ?_; refine wpList_atE HW0.out ?_)))
    go_ret2
    exact ⟨rfl, HB.out⟩
  · have d1 : decide (k < 1) = false := decide_eq_false h1
    have h2 : 16 < k := by omega
    have d2 : decide (16 < k) = true := decide_eq_true h2
    clear hW0 eg hb hk h1
    go_enter Tryd.func19, Tryd.ntmps19
    go_wp2_with (first | ((with_reducible show wpList _ _ _ (Oper.mk _ (Op.box _ _) _ _ _ _ :: _) _ _); (refine wpList_box_row rfl 45 (.tmp 1) rfl _ rfl g EG.out ?_; refine wpList_atE HW0.out ?_)))
    go_ret2
    exact ⟨rfl, HB.out⟩

/-- the sorted list of the first n numbers -/
theorem ins_place (K D : List Nat) (x : Nat) : ∀ d k, k = d → k ≤ D.length → (k = D.length ∨ K.getD x 0 < K.getD (at' D k) 0) → ∃ k', k' ≤ D.length ∧ (k' = 0 ∨ ¬ K.getD x 0 < K.getD (at' D (k' - 1)) 0) ∧ (k' = D.length ∨ K.getD x 0 < K.getD (at' D k') 0)
  | 0, k, e, hk, h => ⟨k, hk, .inl e, h⟩
  | d + 1, k, e, hk, h => by
    by_cases c : K.getD x 0 < K.getD (at' D (k - 1)) 0
    · exact ins_place K D x d (k - 1) (by omega) (by omega) (.inr c)
    · exact ⟨k, hk, .inr c, h⟩
theorem exists_sorted (K : List Nat) : ∀ n, ∃ D : List Nat, D.length = n ∧ (∀ y, y ∈ D ↔ y < n) ∧ D.Pairwise (lt K)
  | 0 => ⟨[], rfl, fun y => by simp, List.Pairwise.nil⟩
  | n + 1 => by
    obtain ⟨D, h1, h2, h3⟩ := exists_sorted K n
    obtain ⟨k, k1, k2, k3⟩ := ins_place K D n D.length D.length rfl (Nat.le_refl _) (.inl rfl)
    refine ⟨insAt D k n, by rw [length_insAt D k n k1, h1], fun y => ?_, pairwise_insAt h3 (fun y hy => (h2 y).1 hy) k1 k2 k3⟩
    rw [mem_insAt, h2]; omega
theorem sorted_eq {K D E : List Nat} {n : Nat} (hm : Mix 0 n (List.range n) D) (hs : Srt K D 0 n) (h2 : ∀ y, y ∈ E ↔ y < n) (h3 : E.Pairwise (lt K)) : D = E := by
  have hl : D.length = n := by rw [hm.1, List.length_range]
  refine srt_unique K D E (srt_pairwise (by rw [hl]; exact hs)) h3 fun x => ?_
  rw [mix_mem hm (List.length_range) x, h2, List.mem_range]
theorem pw_eq {K D E : List Nat} {n : Nat} (d2 : ∀ y, y ∈ D ↔ y < n) (d3 : D.Pairwise (lt K)) (h2 : ∀ y, y ∈ E ↔ y < n) (h3 : E.Pairwise (lt K)) : D = E :=
  srt_unique K D E d3 h3 fun x => by rw [d2, h2]

/-- every number of the rows fits -/
def RB64 (L : List (List (Int × Int))) (id : Int) (n : Nat) : Prop := ∀ i, i < n → B64 (numR (L.getD i []) id).1
theorem scok {L : List (List (Int × Int))} {id : Int} {n k : Nat} (h : RB64 L id n) (k1 : 1 ≤ k) (k2 : k ≤ 16) : ScOk L id k n := by
  intro i hi ho
  have hp := nums_pos L id i ho n hi
  refine ⟨by omega, fun w => ?_⟩
  have bd := bounds_R L id n h
  have e := coordR_eq L id k n i hi k1 k2
  rw [if_pos ho] at e
  rw [e]
  unfold loR hiR at bd ⊢
  rw [if_neg hp, if_neg hp] at bd ⊢
  exact scale_any _ _ _ _ w (h i hi) bd.1 bd.2
theorem rowF_bounds (l : List Int) (h : ∀ x ∈ l, B64 x) : ∀ k, ∀ p ∈ rowF l k, B64 p.2
  | 0, p, hp => by simp [rowF] at hp
  | k + 1, p, hp => by
    rw [rowF] at hp
    split at hp
    · exact rowF_bounds l h k p hp
    · rcases List.mem_append.1 hp with h1 | h1
      · exact rowF_bounds l h k p h1
      · simp only [List.mem_singleton] at h1
        subst h1
        simp only
        by_cases c : k < l.length
        · rw [List.getD, List.getElem?_eq_getElem c]; exact h _ (List.getElem_mem c)
        · rw [List.getD, List.getElem?_eq_none (by omega)]; exact ⟨by decide, by decide⟩
theorem numR_bounds (fs : List (Int × Int)) (id : Int) (h : ∀ p ∈ fs, B64 p.2) : B64 (numR fs id).1 := by
  unfold numR
  split
  · rename_i c
    rw [List.getD, List.getElem?_eq_getElem c]
    exact h _ (List.getElem_mem c)
  · exact ⟨by decide, by decide⟩
theorem rb64 (R : List (List Int)) (h : ∀ l ∈ R, ∀ x ∈ l, B64 x) (id : Int) (n m : Nat) : RB64 (rowsOf R n) id m := by
  intro i hi
  refine numR_bounds _ _ fun p hp => ?_
  by_cases c : i < (rowsOf R n).length
  · rw [List.getD, List.getElem?_eq_getElem c] at hp
    simp only [Option.getD_some, rowsOf, List.getElem_map, List.getElem_range] at hp
    refine rowF_bounds _ (fun x hx => ?_) _ p hp
    by_cases c2 : i < R.length
    · rw [List.getD, List.getElem?_eq_getElem c2] at hx
      exact h _ (List.getElem_mem c2) x hx
    · rw [List.getD, List.getElem?_eq_none (by omega)] at hx
      simp at hx
  · rw [List.getD, List.getElem?_eq_none (by omega)] at hp
    simp at hp

/-- a sorted list, as whole numbers -/
def ilist (D : List Nat) : List Int := D.map fun (x : Nat) => (x : Int)
theorem ints_of_cells {w : World} {go n : Nat} {D : List Nat} (hl : D.length = n) (hg : go < w.heap.size) (h : ∀ i, i < n → w.cell? ⟨go, i, none⟩ = some (.int .i64 (at' D i))) : IntsM w (some ⟨go, 0, none⟩) (ilist D) := by
  refine .inr ⟨go, 0, rfl, hg, fun i hi => ?_⟩
  have hi' : i < D.length := by simpa [ilist] using hi
  rw [Nat.zero_add, h i (by omega)]
  simp [ilist, at', List.getD, hi']

theorem order_q (a : Option Addr) (L : List (List (Int × Int))) (n c k : Nat) (id0 id1 : Int) (w : World) (hT : Tab w) (en : n = L.length) (hn : n ≤ 60) (hM : RowsM w a L) (k1 : 1 ≤ k) (k2 : k ≤ 16) (hB0 : RB64 L id0 n) (hB1 : RB64 L id1 n) :
    ∃ D : List Nat, D.length = n ∧ (∀ y, y ∈ D ↔ y < n) ∧ D.Pairwise (lt ((List.range n).map (keyR L id0 id1 k n))) ∧
      (∀ W, Below w.heap.size w W → Calls Tryd.prog 18 #[.slice a n c, .agg #[.int .i64 id0, .int .i64 id1], .int .i64 k] W fun e w' => ∃ go co, e = .returned (.tuple #[.slice (some ⟨go, 0, none⟩) n co, .int .i64 0]) ∧ go < w'.heap.size ∧ (∀ i, i < n → w'.cell? ⟨go, i, none⟩ = some (.int .i64 (at' D i))) ∧ Below W.heap.size W w') ∧
      (∀ W, Below w.heap.size w W → Calls Tryd.prog 19 #[.slice a n c, .agg #[.int .i64 id0, .int .i64 id1], .int .i64 k] W fun e w' => ∃ go co, e = .returned (.tuple #[.slice (some ⟨go, 0, none⟩) n co, .int .i64 0]) ∧ go < w'.heap.size ∧ (∀ i, i < n → w'.cell? ⟨go, i, none⟩ = some (.int .i64 (at' D i))) ∧ Below W.heap.size W w') := by
  obtain ⟨D, h1, h2, h3⟩ := exists_sorted ((List.range n).map (keyR L id0 id1 k n)) n
  refine ⟨D, h1, h2, h3, fun W hW => ?_, fun W hW => ?_⟩
  · refine (order_any a L n c k id0 id1 W (hT.below hW (Nat.le_refl _)) en (by omega) (hM.below hW (Nat.le_refl _)) k1 k2 (scok hB0 k1 k2) (scok hB1 k1 k2) (sort_any n hn)).mono ?_
    rintro e w' ⟨go, co, D', rfl, hR, hm, hs, hb⟩
    have := sorted_eq hm hs h2 h3
    subst this
    exact ⟨go, co, rfl, hR.lt, fun i hi => by rw [hR.cell, get_nc D' i (by omega)], hb⟩
  · refine (rorder_any a L n c k id0 id1 W en (by omega) (hM.below hW (Nat.le_refl _)) k1 k2 hB0 hB1).mono ?_
    rintro e w' ⟨go, co, D', rfl, hg, hcell, hl, hm, hp, hb⟩
    have := pw_eq hm hp h2 h3
    subst this
    exact ⟨go, co, rfl, hg, hcell, hb⟩

theorem order_pair (a : Option Addr) (L : List (List (Int × Int))) (n c : Nat) (id0 id1 k : Int) (w : World) (hT : Tab w) (en : n = L.length) (hn : n ≤ 60) (hM : RowsM w a L) (hB0 : RB64 L id0 n) (hB1 : RB64 L id1 n) :
    ∃ (Lo : List Int) (er : Int), Lo.length ≤ 60 ∧
      (∀ W, Below w.heap.size w W → Calls Tryd.prog 18 #[.slice a n c, .agg #[.int .i64 id0, .int .i64 id1], .int .i64 k] W fun e w' => ∃ go co, e = .returned (.tuple #[.slice go Lo.length co, .int .i64 er]) ∧ IntsM w' go Lo ∧ Below W.heap.size W w') ∧
      (∀ W, Below w.heap.size w W → Calls Tryd.prog 19 #[.slice a n c, .agg #[.int .i64 id0, .int .i64 id1], .int .i64 k] W fun e w' => ∃ go co, e = .returned (.tuple #[.slice go Lo.length co, .int .i64 er]) ∧ IntsM w' go Lo ∧ Below W.heap.size W w') := by
  by_cases hk : 1 ≤ k ∧ k ≤ 16
  · obtain ⟨m, rfl⟩ : ∃ m : Nat, k = m := ⟨k.toNat, by omega⟩
    obtain ⟨D, h1, h2, h3, h4, h5⟩ := order_q a L n c m id0 id1 w hT en hn hM (by omega) (by omega) hB0 hB1
    have hl : (ilist D).length = n := by simp [ilist, h1]
    refine ⟨ilist D, 0, by omega, fun W hW => (h4 W hW).mono ?_, fun W hW => (h5 W hW).mono ?_⟩
    · rintro e w' ⟨go, co, rfl, hg, hc, hb⟩
      exact ⟨some ⟨go, 0, none⟩, co, by rw [hl], ints_of_cells h1 hg hc, hb⟩
    · rintro e w' ⟨go, co, rfl, hg, hc, hb⟩
      exact ⟨some ⟨go, 0, none⟩, co, by rw [hl], ints_of_cells h1 hg hc, hb⟩
  · refine ⟨[], 1, by decide, fun W hW => (order_bad a n c id0 id1 k W hk).mono ?_, fun W hW => (rorder_bad a n c id0 id1 k W hk).mono ?_⟩
    · rintro e w' ⟨rfl, hb⟩
      exact ⟨none, 0, rfl, .inl ⟨rfl, rfl⟩, hb⟩
    · rintro e w' ⟨rfl, hb⟩
      exact ⟨none, 0, rfl, .inl ⟨rfl, rfl⟩, hb⟩
end Go.Proofs.YtnpkbjekodjcjaaDoor
