/- A region that draws its order, whose operations but the last only read (calls too), and whose last one waits for all others: one walk in the order of the text. -/
import Derived.Test.YtkonoojmhjinpaaKit4
import Derived.Deep.QuietTactic
import Derived.BigQuiet
set_option linter.all false
namespace Go.Fen
open Go Go.RowKit

/-- every edge leads back, and the last operation waits for each other one -/
def lastB (md : Region.Mode) (ops : Array Oper) (last : Nat) : Bool :=
  (last + 1 == ops.size) &&
  ((List.range ops.size).all fun j => (ops[j]?).all fun o => o.after.all fun e => !Region.binds md e || decide (e.on < j)) &&
  ((List.range last).all fun k => (ops[last]?).any fun o => o.after.any fun e => Region.binds md e && e.on == k)

section
variable {P : Program} {ops : Array Oper} {md : Region.Mode} {C : World → Prop} {Q' : Exit → Act → World → Prop} {last : Nat}

theorem lastB_spec (h : lastB md ops last = true) :
    last + 1 = ops.size ∧ (∀ j o, ops[j]? = some o → ∀ e ∈ o.after, Region.binds md e = true → e.on < j) ∧
    (∀ k, k < last → ∃ o e, ops[last]? = some o ∧ e ∈ o.after ∧ Region.binds md e = true ∧ e.on = k) := by
  simp only [lastB, Bool.and_eq_true, beq_iff_eq, List.all_eq_true, List.mem_range] at h
  obtain ⟨⟨h1, h2⟩, h3⟩ := h
  refine ⟨h1, fun j o hj e he hb => ?_, fun k hk => ?_⟩
  · have hlt := (Array.getElem?_eq_some_iff.1 hj).1
    have := h2 j hlt
    simp only [hj, Option.all_some, Array.all_eq_true_iff_forall_mem] at this
    have := this e he
    simpa [hb] using this
  · have := h3 k hk
    cases ho : ops[last]? with
    | none => simp [ho] at this
    | some o =>
      simp only [ho, Option.any_some] at this
      rw [← Array.any_toList, List.any_eq_true] at this
      obtain ⟨e, he, hb⟩ := this
      simp only [Bool.and_eq_true, beq_iff_eq] at hb
      exact ⟨o, e, rfl, by simpa using he, hb.1, hb.2⟩

theorem not_nil_of_unlisted (hE : ∀ j o, ops[j]? = some o → ∀ e ∈ o.after, Region.binds md e = true → e.on < j) {listed : Array Bool} (hs : listed.size = ops.size)
    (hr : Region.ready md ops listed = []) : ∀ n j, j ≤ n → j < ops.size → listed.getD j true = true := by
  intro n
  induction n using Nat.strongRecOn with
  | _ n ih =>
    intro j hjn hj
    rcases Nat.lt_or_ge j n with hlt | hge
    · exact ih j hlt j (Nat.le_refl _) hj
    · cases hc : listed.getD j true with
      | true => rfl
      | false =>
        exfalso
        have : j ∈ Region.ready md ops listed := by
          rw [mem_ready]
          refine ⟨hc, ops[j], Array.getElem?_eq_getElem hj, fun e he hb => ?_⟩
          have h1 := hE j _ (Array.getElem?_eq_getElem hj) e he hb
          have h2 := ih e.on (by omega) e.on (Nat.le_refl _) (by omega)
          have h3 : e.on < listed.size := by omega
          simpa [h3] using h2
        rw [hr] at this
        cases this

theorem last_not_ready (hT : ∀ k, k < last → ∃ o e, ops[last]? = some o ∧ e ∈ o.after ∧ Region.binds md e = true ∧ e.on = k) {listed : Array Bool} {k : Nat} (hk : k < last) (hu : listed.getD k true = false) :
    ¬ last ∈ Region.ready md ops listed := by
  intro h
  obtain ⟨_, o, ho, hall⟩ := mem_ready.1 h
  obtain ⟨o', e, ho', he, hb, hk'⟩ := hT k hk
  rw [ho] at ho'
  cases ho'
  have := hall e he hb
  rw [hk'] at this
  rcases Nat.lt_or_ge k listed.size with h' | h'
  · simp [h'] at this hu; rw [this] at hu; cases hu
  · simp [h'] at hu

theorem ready_back (hE : ∀ j o, ops[j]? = some o → ∀ e ∈ o.after, Region.binds md e = true → e.on < j) {listed : Array Bool} {i : Nat} (hi : i < last) (h : i ∈ Region.ready md ops (listed.setIfInBounds last true)) :
    i ∈ Region.ready md ops listed := by
  obtain ⟨h0, o, ho, hall⟩ := mem_ready.1 h
  rw [mem_ready]
  refine ⟨by rwa [getD_set_ne true (by omega)] at h0, o, ho, fun e he hb => ?_⟩
  have h1 := hE i o ho e he hb
  have h2 := hall e he hb
  rwa [getD_set_ne false (by omega)] at h2

theorem wpAny_of_quiet_last (hl : last + 1 = ops.size) (hE : ∀ j o, ops[j]? = some o → ∀ e ∈ o.after, Region.binds md e = true → e.on < j)
    (hT : ∀ k, k < last → ∃ o e, ops[last]? = some o ∧ e ∈ o.after ∧ Region.binds md e = true ∧ e.on = k) :
    ∀ (fuel : Nat) (listed : Array Bool) (a : Act) (w : World), C w → listed.size = ops.size → listed.getD last true = false →
      wpAnyQ P md ops C (fun a' => ∀ w', C w' → wpOp P ops Q' last (fun a'' w'' => Q' .normal a'' w'') a' w') fuel (listed.setIfInBounds last true) a → wpAny P md ops Q' (fuel + 1) listed a w := by
  -- when nothing but the last one is left
  have fin : ∀ (fuel : Nat) (listed : Array Bool) (a : Act) (w : World), listed.size = ops.size → listed.getD last true = false → Region.ready md ops (listed.setIfInBounds last true) = [] →
      wpOp P ops Q' last (fun a'' w'' => Q' .normal a'' w'') a w → wpAny P md ops Q' (fuel + 1) listed a w := by
    intro fuel listed a w hs hu hr h
    have hall := not_nil_of_unlisted (ops := ops) (md := md) hE (listed := listed.setIfInBounds last true) (by simpa using hs) hr
    have only : ∀ i ∈ Region.ready md ops listed, i = last := by
      intro i hi
      by_cases hne : i = last
      · exact hne
      · have := ready_mono (i := last) hi hne
        rw [hr] at this
        cases this
    have hin : last ∈ Region.ready md ops listed := by
      rw [mem_ready]
      refine ⟨hu, ops[last], Array.getElem?_eq_getElem (by omega), fun e he hb => ?_⟩
      have h1 := hE last _ (Array.getElem?_eq_getElem (by omega)) e he hb
      have h2 := hall e.on e.on (Nat.le_refl _) (by omega)
      rw [getD_set_ne true (by omega)] at h2
      have h3 : e.on < listed.size := by omega
      simpa [h3] using h2
    refine ⟨fun h0 => (by rw [h0] at hin; cases hin), fun i hi => ?_⟩
    have := only i hi
    subst this
    refine wpOp_mono (fun a' w' hq => ?_) h
    cases fuel with
    | zero => exact ⟨hr, hq⟩
    | succ f => exact ⟨fun _ => hq, fun j hj => by rw [hr] at hj; cases hj⟩
  intro fuel
  induction fuel with
  | zero =>
    intro listed a w hC hs hu H
    exact fin 0 listed a w hs hu H.1 (H.2 w hC)
  | succ fuel ih =>
    intro listed a w hC hs hu H
    by_cases hr : Region.ready md ops (listed.setIfInBounds last true) = []
    · exact fin _ listed a w hs hu hr (H.1 hr w hC)
    · obtain ⟨i0, hi0⟩ := List.exists_mem_of_ne_nil _ hr
      have hi0' := (mem_ready.1 hi0)
      obtain ⟨hu0, o0, ho0, _⟩ := hi0'
      have hlt0 : i0 < ops.size := (Array.getElem?_eq_some_iff.1 ho0).1
      have hne0 : i0 ≠ last := by
        intro e
        subst e
        have h3 : i0 < listed.size := by omega
        simp [h3] at hu0
      have hu0' : listed.getD i0 true = false := by rwa [getD_set_ne true (Ne.symm hne0)] at hu0
      have hnl := last_not_ready (ops := ops) (md := md) hT (k := i0) (by omega) hu0'
      have hin0 := ready_back (ops := ops) (md := md) (last := last) hE (by omega) hi0
      refine ⟨fun h0 => (by rw [h0] at hin0; cases hin0), fun i hi => ?_⟩
      have hne : i ≠ last := fun e => hnl (e ▸ hi)
      have h1 := H.2 i (ready_mono hi hne)
      refine wpOp_of_qOp hC (fun a' w' hC' hk => ?_) h1
      refine ih (listed.setIfInBounds i true) a' w' hC' (by simpa using hs) (by rw [getD_set_ne true hne]; exact hu) ?_
      rw [Array.setIfInBounds_comm _ _ hne]
      exact hk

/-- the walk in the order of the text, from a list of what has come up -/
theorem wpAnyQ_lex' {Q : Act → Prop} (hs : Region.noSelect ops = true) : ∀ (l : List Oper) (k : Nat) (listed : Array Bool) (a : Act), (∀ j, j < l.length → l[j]? = ops[k + j]?) →
    Region.lexFrom md ops l.length k listed = true → wpQuiet P ops C Q l a → wpAnyQ P md ops C Q l.length listed a
  | [], _, _, _, _, hB, h => ⟨by simpa [Region.lexFrom] using hB, h⟩
  | o :: l, k, listed, a, hl, hB, h => by
    have h0 : ops[k]? = some o := by simpa using (hl 0 (by simp)).symm
    simp only [List.length_cons, Region.lexFrom, Bool.and_eq_true] at hB
    obtain ⟨⟨hr, hf⟩, hB'⟩ := hB
    have hst : qOp P ops C k (wpQuiet P ops C Q l) a := by unfold qOp; simp only [h0]; exact h
    obtain ⟨v, hy, hK⟩ := yieldsIn_of_qOp h0 hst
    exact wpAnyQ_first h0 (Region.noSelect_spec hs) l.length listed a (Region.free_spec h0 hf) (by simpa using hr) hy
      (wpAnyQ_lex' hs l (k + 1) _ _ (fun j hj => by have := hl (j + 1) (by simp; omega); simpa [Nat.add_assoc, Nat.add_comm 1 j] using this) hB' hK)

/-- the Bool that the walk asks -/
def quietLastB (md : Region.Mode) (ops : Array Oper) : Bool :=
  Region.noSelect ops && lastB md ops (ops.size - 1) && Region.lexFrom md ops (ops.size - 1) 0 ((Array.replicate ops.size false).setIfInBounds (ops.size - 1) true)

theorem wp_region_quiet_last {id : Nat} {Q : Exit → Act → World → Prop} {a : Act} {w : World} {l : List Oper} (hm : P.follows .mixedOrders = true) (hB : quietLastB .any l.toArray = true)
    (o : Oper) (ho : l.getLast? = some o)
    (h : wpQuiet P l.toArray (fun w' => ∃ n, w' = w.drewN n) (fun a' => ∀ w', (∃ n, w' = w.drewN n) → wpList P l.toArray Q [o] a' w') l.dropLast a) : (Code.region id l.toArray true).wp P Q a w := by
  simp only [quietLastB, Bool.and_eq_true] at hB
  obtain ⟨⟨hsel, hl⟩, hx⟩ := hB
  obtain ⟨h1, hE, hT⟩ := lastB_spec hl
  refine wp_region_any hm ?_
  have hn : l.toArray.size = (l.toArray.size - 1) + 1 := h1.symm
  rw [hn]
  have hlast : l.toArray[l.toArray.size - 1]? = some o := by
    rw [← ho, List.getLast?_eq_getElem?]; simp
  have hlen : l.dropLast.length = l.toArray.size - 1 := by simp
  refine wpAny_of_quiet_last (C := fun w' => ∃ n, w' = w.drewN n) (last := l.toArray.size - 1) h1 hE hT _ _ a _ ⟨1, rfl⟩ (by simp only [Array.size_replicate]; exact hn.symm) ?_ ?_
  · have h2 : l.toArray.size - 1 < l.toArray.size := by omega
    simp only [List.size_toArray] at h2 ⊢
    have h3 : 0 < l.length := by omega
    simp [h3]
  · rw [← hlen] at hx ⊢
    rw [show l.dropLast.length + 1 = l.toArray.size by rw [hlen]; exact hn.symm]
    refine wpAnyQ_lex' (ops := l.toArray) hsel l.dropLast 0 _ a (fun j hj => ?_) hx ?_
    · rw [List.getElem?_dropLast, if_pos (by simp at hj; exact hj)]; simp
    · refine cast ?_ h
      congr 1
      funext a'
      apply forall_congr
      intro w'
      apply propext
      constructor
      · intro H hw
        have := H hw
        unfold wpOp
        rw [hlen, hlast]
        exact this
      · intro H hw
        have := H hw
        unfold wpOp at this
        rw [hlen, hlast] at this
        exact this
end
end Go.Fen
