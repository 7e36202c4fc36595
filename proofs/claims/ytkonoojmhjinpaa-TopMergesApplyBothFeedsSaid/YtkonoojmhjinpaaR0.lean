/- A region that draws its order, by what each operation leaves (a rely): any order of calls that make memory. -/
import Derived.Test.YtkonoojmhjinpaaN
set_option linter.all false
namespace Go.Proofs.Ytkonoojmhjinpaa
open Go.RowKit Go.Fen
set_option linter.unusedVariables false
set_option maxHeartbeats 4000000

theorem count_set_true : ∀ (l : List Bool) (i : Nat), l[i]? = some false → (l.set i true).count false + 1 = l.count false
  | [], i, h => by simp at h
  | b :: l, 0, h => by
    simp only [List.getElem?_cons_zero, Option.some.injEq] at h
    subst h
    simp
  | b :: l, i + 1, h => by
    rw [List.getElem?_cons_succ] at h
    have := count_set_true l i h
    rw [List.set_cons_succ, List.count_cons, List.count_cons]
    omega
theorem exists_least (p : Nat → Prop) [DecidablePred p] : ∀ n, p n → ∃ m, m ≤ n ∧ p m ∧ ∀ j, j < m → ¬ p j := by
  intro n
  induction n using Nat.strongRecOn with
  | _ n ih =>
    intro hn
    by_cases h : ∃ j, j < n ∧ p j
    · obtain ⟨j, hj, hp⟩ := h
      obtain ⟨m, h1, h2, h3⟩ := ih j hj hp
      exact ⟨m, by omega, h2, h3⟩
    · exact ⟨n, Nat.le_refl _, hn, fun j hj hp => h ⟨j, hj, hp⟩⟩

/-- every operation waits for earlier ones alone -/
def lexAfter (ops : Array Oper) : Bool := (List.range ops.size).all fun i => match ops[i]? with
  | none => true
  | some o => o.after.all fun e => decide (e.on < i)

theorem wp_region_rely {P : Program} {ops : Array Oper} {id : Nat} {Q : Exit → Act → World → Prop} {a : Act} {w : World} (hm : P.follows .mixedOrders = true) (hlex : lexAfter ops = true)
    (G : (Nat → Bool) → Act → World → Prop)
    (h0 : G (fun _ => false) a w.drew)
    (hstep : ∀ (l : Nat → Bool) (b : Act) (x : World) (i : Nat) (o : Oper), ops[i]? = some o → G l b x → (∀ e ∈ o.after, Region.binds .any e = true → l e.on = true) → ∀ K : Act → World → Prop, (∀ b' x', G (fun j => if j = i then true else l j) b' x' → K b' x') → wpOp P ops Q i K b x)
    (hend : ∀ (l : Nat → Bool) (b : Act) (x : World), (∀ i, i < ops.size → l i = true) → G l b x → Q .normal b x) : (Code.region id ops true).wp P Q a w := by
  refine wp_region_any hm ?_
  have main : ∀ (fuel : Nat) (listed : Array Bool) (b : Act) (x : World), listed.size = ops.size → listed.toList.count false ≤ fuel → G (fun j => listed.getD j false) b x → wpAny P .any ops Q fuel listed b x := by
    have fin : ∀ (listed : Array Bool) (b : Act) (x : World), listed.size = ops.size → G (fun j => listed.getD j false) b x → Region.ready .any ops listed = [] → Q .normal b x := by
      intro listed b x hs hG hr
      refine hend _ b x (fun i hi => ?_) hG
      by_cases hl : listed.getD i false = true
      · exact hl
      · exfalso
        obtain ⟨m, hmi, ⟨hm1, hm2⟩, hm3⟩ := exists_least (fun j => j < ops.size ∧ listed.getD j false = false) i ⟨hi, by simpa using hl⟩
        have hmem : m ∈ Region.ready .any ops listed := by
          refine mem_ready.2 ⟨?_, ops[m], Array.getElem?_eq_getElem hm1, fun e he _ => ?_⟩
          · have hms : m < listed.size := by omega
            simp only [Array.getD, hms, dite_true] at hm2 ⊢
            exact hm2
          · have h1 := List.all_eq_true.1 hlex m (List.mem_range.2 hm1)
            rw [Array.getElem?_eq_getElem hm1] at h1
            have h2 := Array.all_eq_true'.1 h1 e he
            have h3 : e.on < m := of_decide_eq_true h2
            by_cases hq : listed.getD e.on false = true
            · exact hq
            · exact absurd ⟨by omega, by simpa using hq⟩ (hm3 e.on h3)
        rw [hr] at hmem
        cases hmem
    intro fuel
    induction fuel with
    | zero =>
      intro listed b x hs hc hG
      have hnil : Region.ready .any ops listed = [] := by
        rcases hq : Region.ready .any ops listed with _ | ⟨i, t⟩
        · rfl
        · exfalso
          have hi : i ∈ Region.ready .any ops listed := by rw [hq]; simp
          obtain ⟨h1, o, ho, _⟩ := mem_ready.1 hi
          have hlt : i < listed.size := by rw [hs]; exact (Array.getElem?_eq_some_iff.1 ho).1
          simp only [Array.getD, hlt, dite_true] at h1
          have : false ∈ listed.toList := by rw [← h1]; simp
          have := List.count_pos_iff.2 this
          omega
      exact ⟨hnil, fin listed b x hs hG hnil⟩
    | succ fuel ih =>
      intro listed b x hs hc hG
      refine ⟨fin listed b x hs hG, fun i hi => ?_⟩
      obtain ⟨h1, o, ho, hdep⟩ := mem_ready.1 hi
      have hlt : i < listed.size := by rw [hs]; exact (Array.getElem?_eq_some_iff.1 ho).1
      refine hstep _ b x i o ho hG hdep _ fun b' x' hG' => ih _ b' x' (by simpa using hs) ?_ ?_
      · simp only [Array.getD, hlt, dite_true] at h1
        have := count_set_true listed.toList i (by rw [List.getElem?_eq_getElem (by simpa using hlt)]; simpa using h1)
        simp only [Array.toList_setIfInBounds]
        omega
      · refine cast ?_ hG'
        congr 1
        funext j
        by_cases e : j = i
        · subst e
          simp [Array.getD, hlt]
        · rw [if_neg e]
          simp [Array.getD_eq_getD_getElem?, Array.getElem?_setIfInBounds, Ne.symm e]
  refine main ops.size _ a _ (by simp) (by simp) ?_
  refine cast ?_ h0
  congr 1
  funext j
  simp [Array.getD_eq_getD_getElem?, Array.getElem?_replicate]
  split <;> rfl
end Go.Proofs.Ytkonoojmhjinpaa
