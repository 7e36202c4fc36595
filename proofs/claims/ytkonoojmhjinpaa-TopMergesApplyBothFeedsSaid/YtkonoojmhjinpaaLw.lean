/- The law, plainly. The walk of the law. -/
import Derived.Test.YtkonoojmhjinpaaMm
import Derived.Test.YtkonoojmhjinpaaAq
import Derived.Test.YtkonoojmhjinpaaSt
import Derived.Test.YtkonoojmhjinpaaFi
import Derived.Test.YtkonoojmhjinpaaSa
import Derived.Test.YtkonoojmhjinpaaBr
import Derived.Test.YtkonoojmhjinpaaS
set_option linter.all false
namespace Go.Proofs.Ytkonoojmhjinpaa
open Go.RowKit Go.Fen
set_option linter.unusedVariables false

theorem findS_nil (n : Int) : findS [] n = none := rfl
theorem findS_cons (x : Ln) (L : List Ln) (n : Int) : findS (x :: L) n = if x.n = n then some x.r else findS L n := by
  unfold findS
  rw [List.find?_cons]
  by_cases h : x.n = n
  · simp [h]
  · have e : (x.n == n) = false := beq_eq_false_iff_ne.2 h
    simp [h, e]
theorem findS_small (L : List Ln) (n : Int) (h : ∀ l ∈ L, n < l.n) : findS L n = none := by
  induction L with
  | nil => rfl
  | cons x L ih =>
    rw [findS_cons, if_neg (by have := h x (by simp); omega)]
    exact ih fun l hl => h l (by simp [hl])
/-- the key of a line against another table -/
def keyL (Lo : List Ln) (l : Ln) : Int × Option Rv × Option Rv := (l.n, some l.r, findS Lo l.n)
theorem mg_keys : ∀ (L Lo : List Ln), L.Pairwise (fun x y => x.n < y.n) → Lo.Pairwise (fun x y => x.n < y.n) → (∀ o ∈ Lo, ∃ l ∈ L, l.n = o.n) → (mg Ln.n Ln.n L Lo).map keyM = L.map (keyL Lo)
  | [], [], _, _, _ => by simp [mg]
  | [], o :: Lo, _, _, h => by
    obtain ⟨l, hl, _⟩ := h o (by simp)
    cases hl
  | x :: L, [], h1, h2, h => by
    have ih := mg_keys L [] (List.pairwise_cons.1 h1).2 List.Pairwise.nil (by simp)
    rw [mg, List.map_cons, ih, List.map_cons]
    rfl
  | x :: L, o :: Lo, h1, h2, h => by
    have hx := (List.pairwise_cons.1 h1).1
    have ho := (List.pairwise_cons.1 h2).1
    have hge : x.n ≤ o.n := by
      obtain ⟨l, hl, e⟩ := h o (by simp)
      rcases List.mem_cons.1 hl with q | q
      · subst q; omega
      · have := hx l q; omega
    by_cases hlt : x.n < o.n
    · rw [mg, if_pos hlt]
      have ih := mg_keys L (o :: Lo) (List.pairwise_cons.1 h1).2 h2 (fun o' ho' => by
        obtain ⟨l, hl, e⟩ := h o' ho'
        rcases List.mem_cons.1 hl with q | q
        · exfalso
          subst q
          rcases List.mem_cons.1 ho' with q2 | q2
          · subst q2; omega
          · have := ho o' q2; omega
        · exact ⟨l, q, e⟩)
      rw [List.map_cons, ih, List.map_cons]
      have e : findS (o :: Lo) x.n = none := findS_small _ _ (fun l hl => by
        rcases List.mem_cons.1 hl with q | q
        · subst q; exact hlt
        · have := ho l q; omega)
      simp [keyM, keyL, e]
    · have he : x.n = o.n := by omega
      rw [mg, if_neg hlt, if_neg (by omega)]
      have ih := mg_keys L Lo (List.pairwise_cons.1 h1).2 (List.pairwise_cons.1 h2).2 (fun o' ho' => by
        obtain ⟨l, hl, e⟩ := h o' (by simp [ho'])
        rcases List.mem_cons.1 hl with q | q
        · exfalso; subst q; have := ho o' ho'; omega
        · exact ⟨l, q, e⟩)
      rw [List.map_cons, ih, List.map_cons]
      have e1 : keyM (x.n, some x, some o) = keyL (o :: Lo) x := by
        simp [keyM, keyL, findS_cons, he]
      have e2 : L.map (keyL Lo) = L.map (keyL (o :: Lo)) := by
        refine List.map_congr_left fun l hl => ?_
        have := hx l hl
        unfold keyL
        rw [findS_cons, if_neg (by omega)]
      rw [e1, e2]
/-- the events of a line -/
def evL (Lo : List Ln) (l : Ln) : List Ev := evK (keyL Lo l)
theorem feed_lines (L Lo : List Ln) (h1 : L.Pairwise (fun x y => x.n < y.n)) (h2 : Lo.Pairwise (fun x y => x.n < y.n)) (h : ∀ o ∈ Lo, ∃ l ∈ L, l.n = o.n) : feedE L Lo = L.flatMap (evL Lo) := by
  unfold feedE
  rw [mg_keys L Lo h1 h2 h, List.flatMap_map]
  rfl
theorem evL_n (Lo : List Ln) (l : Ln) : ∀ e ∈ evL Lo l, e.n = l.n := by
  intro e he
  unfold evL evK at he
  split at he
  · cases he
  · simp only [keyL, wentOf] at he
    rcases List.mem_append.1 he with q | q
    · rw [List.mem_singleton.1 q]
    · revert q
      cases findS Lo l.n with
      | none => intro q; cases q
      | some r => intro q; rw [List.mem_singleton.1 q]
theorem feedOk_nil : FeedOk [] := fun i x hx => by simp at hx
theorem feedOk_app {A B : List Ev} (hA : FeedOk A) (hB : FeedOk B) (h : ∀ a ∈ A, ∀ b ∈ B, a.n < b.n) : FeedOk (A ++ B) := by
  intro i x hx
  by_cases hi : i < A.length
  · rw [List.getElem?_append_left hi] at hx
    obtain ⟨k1, k2, k3, k4⟩ := hA i x hx
    refine ⟨k1, k2, k3, fun j y hj hy => k4 j y hj ?_⟩
    rw [List.getElem?_append_left (by omega)] at hy
    exact hy
  · rw [List.getElem?_append_right (by omega)] at hx
    obtain ⟨k1, k2, k3, k4⟩ := hB _ x hx
    refine ⟨k1, k2, k3, fun j y hj hy => ?_⟩
    by_cases hj2 : j < A.length
    · rw [List.getElem?_append_left hj2] at hy
      exact .inl (h y (List.mem_of_getElem? hy) x (List.mem_of_getElem? hx))
    · rw [List.getElem?_append_right (by omega)] at hy
      exact k4 (j - A.length) y (by omega) hy
theorem evL_ok (Lo : List Ln) (l : Ln) (h0 : 0 ≤ l.n) (h1 : l.n < 1000000) : FeedOk (evL Lo l) := by
  unfold evL evK keyL
  simp only
  split
  · exact feedOk_nil
  · rename_i hs
    cases hf : findS Lo l.n with
    | none =>
      intro i x hx
      match i, hx with
      | 0, hx =>
        simp [wentOf, cameOf] at hx
        subst hx
        exact ⟨.inr rfl, h0, h1, fun j y hj => by omega⟩
      | i + 1, hx => simp [wentOf, cameOf] at hx
    | some r =>
      rw [hf] at hs
      intro i x hx
      match i, hx with
      | 0, hx =>
        simp [wentOf, cameOf] at hx
        subst hx
        exact ⟨.inr rfl, h0, h1, fun j y hj => by omega⟩
      | 1, hx =>
        simp [wentOf, cameOf] at hx
        subst hx
        refine ⟨.inl rfl, h0, h1, fun j y hj hy => ?_⟩
        obtain rfl : j = 0 := by omega
        simp [wentOf, cameOf] at hy
        subst hy
        refine .inr ⟨rfl, rfl, rfl, ?_⟩
        intro e
        apply hs
        have e : l.r.R = r.R := e
        simp [sameS, e]
      | i + 2, hx => simp [wentOf, cameOf] at hx
theorem lines_ok (Lo : List Ln) : ∀ (L : List Ln), L.Pairwise (fun x y => x.n < y.n) → (∀ l ∈ L, 0 ≤ l.n ∧ l.n < 1000000) → FeedOk (L.flatMap (evL Lo))
  | [], _, _ => feedOk_nil
  | x :: L, h1, h2 => by
    rw [List.flatMap_cons]
    refine feedOk_app (evL_ok Lo x (h2 x (by simp)).1 (h2 x (by simp)).2) (lines_ok Lo L (List.pairwise_cons.1 h1).2 fun l hl => h2 l (by simp [hl])) fun a ha b hb => ?_
    obtain ⟨l, hl, hb⟩ := List.mem_flatMap.1 hb
    have := (List.pairwise_cons.1 h1).1 l hl
    have e1 := evL_n Lo x a ha
    have e2 := evL_n Lo l b hb
    omega
/-- a line that the feed touches -/
def ns (Lo : List Ln) (l : Ln) : Bool := !(sameS (some l.r) (findS Lo l.n))
theorem stepI_new' (acc : List (Int × Option Rv × Option Rv)) (e : Ev) (h : ∀ t ∈ acc, t.1 < e.n) : stepI acc e = acc ++ [setK (e.n, none, none) e] := by
  unfold stepI
  cases hl : acc.getLast? with
  | none =>
    have : acc = [] := by simpa using hl
    subst this
    rfl
  | some t =>
    have ht : t ∈ acc := List.mem_of_getLast? hl
    have := h t ht
    simp only
    rw [if_neg (by omega)]
theorem items_fold (Lo : List Ln) : ∀ (L : List Ln) (acc : List (Int × Option Rv × Option Rv)), L.Pairwise (fun x y => x.n < y.n) → (∀ t ∈ acc, ∀ l ∈ L, t.1 < l.n) → (L.flatMap (evL Lo)).foldl stepI acc = acc ++ (L.filter (ns Lo)).map (keyL Lo)
  | [], acc, _, _ => by simp
  | x :: L, acc, h1, h2 => by
    have hx := (List.pairwise_cons.1 h1).1
    rw [List.flatMap_cons, List.foldl_append]
    have key : (evL Lo x).foldl stepI acc = acc ++ ([x].filter (ns Lo)).map (keyL Lo) := by
      unfold evL evK keyL
      simp only
      cases hs : sameS (some x.r) (findS Lo x.n) with
      | true => simp [ns, hs]
      | false =>
        have e1 : stepI acc ⟨2, x.n, x.r⟩ = acc ++ [(x.n, some x.r, none)] := by
          rw [stepI_new' acc _ (fun t ht => h2 t ht x (by simp))]
          rfl
        cases hf : findS Lo x.n with
        | none =>
          rw [hf] at hs
          simp [wentOf, cameOf, e1, ns, hf, hs]
        | some r =>
          rw [hf] at hs
          have e2 : stepI (acc ++ [(x.n, some x.r, none)]) ⟨1, x.n, r⟩ = acc ++ [(x.n, some x.r, some r)] := by
            unfold stepI
            simp [setK]
          simp [wentOf, cameOf, e1, e2, ns, hf, hs]
    rw [key, items_fold Lo L _ (List.pairwise_cons.1 h1).2 (fun t ht l hl => by
      rcases List.mem_append.1 ht with q | q
      · exact h2 t q l (by simp [hl])
      · have hm := (List.mem_map.1 q)
        obtain ⟨y, hy, e⟩ := hm
        have hy := List.mem_singleton.1 (List.mem_filter.1 hy).1
        subst hy
        rw [← e]
        exact hx l hl)]
    rw [List.append_assoc, ← List.map_append, ← List.filter_append]
    rfl
theorem ct_app (A B : List Ln) : Ct (A ++ B) = Ct A ++ Ct B := by simp [Ct]
theorem mg_first {α β : Type} (f : α → Int) (g : β → Int) (a : α) (A : List α) (B : List β) (h : ∀ k ∈ B, f a < g k) : mg f g (a :: A) B = (f a, some a, none) :: mg f g A B := by
  cases B with
  | nil => rw [mg]
  | cons k B => rw [mg, if_pos (h k (by simp))]
theorem nextOf_same (Na m : Int) (x : Option Rv) (h : m < Na) : nextOf Na m x = Na := by
  cases x with
  | none => rfl
  | some r => simp only [nextOf]; omega
theorem gap_mono : ∀ (T : List (Int × Option Ln × Option (Int × Option Rv × Option Rv))) (st : Int × Bool × List Ln), st.2.1 = true → (T.foldl apK st).2.1 = true
  | [], st, h => h
  | t :: T, st, h => by
    rw [List.foldl_cons]
    refine gap_mono T _ ?_
    simp [apK, apS, h]
theorem base_fold (Na : Int) (b : Bool) : ∀ (La acc : List Ln), (∀ a ∈ La, a.n < Na) → (mg Ln.n (fun k : Int × Option Rv × Option Rv => k.1) La []).foldl apK (Na, b, acc) = (Na, b, acc ++ La)
  | [], acc, _ => by simp [mg]
  | a :: La, acc, h => by
    rw [mg, List.foldl_cons]
    have e : apK (Na, b, acc) (a.n, some a, none) = (Na, b, acc ++ [a]) := by
      simp only [apK, apS, aft, gapOf, Option.map_some, Option.map_none]
      rw [nextOf_same _ _ _ (h a (by simp))]
      simp [outOf]
    rw [e, base_fold Na b La _ fun a' ha => h a' (by simp [ha])]
    simp
theorem fresh_all (N : Int) (La : List Ln) (h : ∀ a ∈ La, N ≤ a.n) : freshL N La = La := by
  cases La with
  | nil => rfl
  | cons a La =>
    have := h a (by simp)
    have e : decide (a.n < N) = false := decide_eq_false (by omega)
    simp [freshL, List.dropWhile_cons, e]
theorem sameS_symm (x y : Option Rv) : sameS x y = sameS y x := by
  unfold sameS
  by_cases h : x.map (·.R) = y.map (·.R)
  · rw [decide_eq_true h, decide_eq_true h.symm]
  · rw [decide_eq_false h, decide_eq_false (fun e => h e.symm)]
theorem flat_same (La La' Lo : List Ln) (L : List Ln) (h : ∀ l ∈ L, findS La l.n = findS La' l.n) : L.flatMap (mergeF La Lo) = L.flatMap (mergeF La' Lo) := by
  induction L with
  | nil => rfl
  | cons x L ih =>
    rw [List.flatMap_cons, List.flatMap_cons, ih fun l hl => h l (by simp [hl])]
    unfold mergeF
    rw [h x (by simp)]
theorem main_merge (Na N : Int) (hN : N ≤ Na) (Lo : List Ln) : ∀ (L La acc : List Ln) (b : Bool), L.Pairwise (fun x y => x.n < y.n) → La.Pairwise (fun x y => x.n < y.n) → (∀ l ∈ L, l.n < N) → (∀ a ∈ La, a.n < Na) → (∀ a ∈ La, a.n < N → ∃ l ∈ L, l.n = a.n) →
    ((mg Ln.n (fun k : Int × Option Rv × Option Rv => k.1) La ((L.filter (ns Lo)).map (keyL Lo))).foldl apK (Na, b, acc)).2.1 = false →
    b = false ∧ ((mg Ln.n (fun k : Int × Option Rv × Option Rv => k.1) La ((L.filter (ns Lo)).map (keyL Lo))).foldl apK (Na, b, acc)).1 = Na ∧
    Ct ((mg Ln.n (fun k : Int × Option Rv × Option Rv => k.1) La ((L.filter (ns Lo)).map (keyL Lo))).foldl apK (Na, b, acc)).2.2 = Ct acc ++ Ct (L.flatMap (mergeF La Lo) ++ freshL N La) ∧
    ∀ l ∈ L, sameS (findS La l.n) (some l.r) = true ∨ sameS (findS Lo l.n) (some l.r) = true
  | [], La, acc, b, _, _, _, h4, h5, hg => by
    have hf : freshL N La = La := fresh_all N La fun a ha => by
      by_cases q : a.n < N
      · obtain ⟨l, hl, _⟩ := h5 a ha q
        cases hl
      · omega
    simp only [List.filter_nil, List.map_nil] at hg ⊢
    rw [base_fold Na b La acc h4] at hg ⊢
    exact ⟨hg, rfl, by rw [hf]; simp [Ct], by simp⟩
  | x :: L, La, acc, b, h1, h2, h3, h4, h5, hg => by
    have hx := (List.pairwise_cons.1 h1).1
    have h1' := (List.pairwise_cons.1 h1).2
    have h3' : ∀ l ∈ L, l.n < N := fun l hl => h3 l (by simp [hl])
    have hxN := h3 x (by simp)
    have hkeys : ∀ k ∈ (L.filter (ns Lo)).map (keyL Lo), x.n < k.1 := by
      intro k hk
      obtain ⟨l, hl, e⟩ := List.mem_map.1 hk
      rw [← e]
      exact hx l (List.mem_filter.1 hl).1
    -- where no line of La bears x's number
    have noA : (∀ a ∈ La, x.n < a.n) → findS La x.n = none ∧ (∀ a ∈ La, a.n < N → ∃ l ∈ L, l.n = a.n) := fun h => ⟨findS_small La x.n h, fun a ha haN => by
      obtain ⟨l, hl, e⟩ := h5 a ha haN
      rcases List.mem_cons.1 hl with q | q
      · subst q; have := h a ha; omega
      · exact ⟨l, q, e⟩⟩
    have hsplit : (∀ a ∈ La, x.n < a.n) ∨ ∃ a La', La = a :: La' ∧ a.n = x.n := by
      cases La with
      | nil => exact .inl (by simp)
      | cons a La' =>
        have ha := (List.pairwise_cons.1 h2).1
        have hge : x.n ≤ a.n := by
          by_cases q : a.n < N
          · obtain ⟨l, hl, e⟩ := h5 a (by simp) q
            rcases List.mem_cons.1 hl with q2 | q2
            · subst q2; omega
            · have := hx l q2; omega
          · omega
        by_cases he : a.n = x.n
        · exact .inr ⟨a, La', rfl, he⟩
        · refine .inl fun a' ha' => ?_
          rcases List.mem_cons.1 ha' with q | q
          · subst q; omega
          · have := ha a' q; omega
    cases hns : ns Lo x with
    | true =>
      have ef : ((x :: L).filter (ns Lo)).map (keyL Lo) = keyL Lo x :: (L.filter (ns Lo)).map (keyL Lo) := by
        rw [List.filter_cons, if_pos hns, List.map_cons]
      rw [ef] at hg ⊢
      rcases hsplit with hno | ⟨a, La', rfl, hax⟩
      · exfalso
        have e : mg Ln.n (fun k : Int × Option Rv × Option Rv => k.1) La (keyL Lo x :: (L.filter (ns Lo)).map (keyL Lo)) = (x.n, none, some (keyL Lo x)) :: mg Ln.n (fun k : Int × Option Rv × Option Rv => k.1) La ((L.filter (ns Lo)).map (keyL Lo)) := by
          cases La with
          | nil => rw [mg]; rfl
          | cons a La' =>
            have := hno a (by simp)
            have q : ¬ a.n < (keyL Lo x).1 := by show ¬ a.n < x.n; omega
            have q2 : (keyL Lo x).1 < a.n := this
            rw [mg, if_neg q, if_pos q2]; rfl
        rw [e, List.foldl_cons] at hg
        have := gap_mono (mg Ln.n (fun k : Int × Option Rv × Option Rv => k.1) La ((L.filter (ns Lo)).map (keyL Lo))) (apK (Na, b, acc) (x.n, none, some (keyL Lo x))) (by simp [apK, apS, gapOf, keyL, sameS])
        rw [this] at hg
        cases hg
      · have ha := (List.pairwise_cons.1 h2).1
        have e : mg Ln.n (fun k : Int × Option Rv × Option Rv => k.1) (a :: La') (keyL Lo x :: (L.filter (ns Lo)).map (keyL Lo)) = (a.n, some a, some (keyL Lo x)) :: mg Ln.n (fun k : Int × Option Rv × Option Rv => k.1) La' ((L.filter (ns Lo)).map (keyL Lo)) := by
          have q : ¬ a.n < (keyL Lo x).1 := by show ¬ a.n < x.n; omega
          have q2 : ¬ (keyL Lo x).1 < a.n := by show ¬ x.n < a.n; omega
          rw [mg, if_neg q, if_neg q2]
        rw [e, List.foldl_cons] at hg ⊢
        have est : apK (Na, b, acc) (a.n, some a, some (keyL Lo x)) = (Na, b || !(sameS (some a.r) (some x.r)), acc ++ outOf a.n (findS Lo x.n)) := by
          simp only [apK, apS, aft, gapOf, keyL, Option.map_some]
          rw [nextOf_same _ _ _ (h4 a (by simp))]
        rw [est] at hg ⊢
        obtain ⟨hb, hn, hc, hcf⟩ := main_merge Na N hN Lo L La' _ _ h1' (List.pairwise_cons.1 h2).2 h3' (fun a' ha' => h4 a' (by simp [ha'])) (fun a' ha' haN => by
          obtain ⟨l, hl, e⟩ := h5 a' (by simp [ha']) haN
          rcases List.mem_cons.1 hl with q | q
          · exfalso; subst q; have := ha a' ha'; omega
          · exact ⟨l, q, e⟩) hg
        have hb1 : b = false := by cases b <;> simp_all
        have hsa : sameS (some a.r) (some x.r) = true := by cases hq : sameS (some a.r) (some x.r) <;> simp_all
        have hfind : ∀ l ∈ L, findS (a :: La') l.n = findS La' l.n := fun l hl => by
          rw [findS_cons, if_neg (by have := hx l hl; omega)]
        have hfx : findS (a :: La') x.n = some a.r := by rw [findS_cons, if_pos hax]
        refine ⟨hb1, hn, ?_, fun l hl => ?_⟩
        · rw [hc, List.flatMap_cons, flat_same (a :: La') La' Lo L hfind]
          have ex : mergeF (a :: La') Lo x = outOf a.n (findS Lo x.n) := by
            unfold mergeF pick
            rw [hfx, hsa, hax]; rfl
          have efr : freshL N (a :: La') = freshL N La' := by
            have q : decide (a.n < N) = true := decide_eq_true (by omega)
            simp [freshL, List.dropWhile_cons, q]
          rw [ex, efr]
          simp [Ct]
        · rcases List.mem_cons.1 hl with q | q
          · subst q; rw [hfx]; exact .inl hsa
          · rw [hfind l q]; exact hcf l q
    | false =>
      have hxy : sameS (some x.r) (findS Lo x.n) = true := by simpa [ns] using hns
      have ef : ((x :: L).filter (ns Lo)).map (keyL Lo) = (L.filter (ns Lo)).map (keyL Lo) := by
        rw [List.filter_cons, if_neg (by simp [hns])]
      rw [ef] at hg ⊢
      rcases hsplit with hno | ⟨a, La', rfl, hax⟩
      · obtain ⟨hf, h5'⟩ := noA hno
        obtain ⟨hb, hn, hc, hcf⟩ := main_merge Na N hN Lo L La acc b h1' h2 h3' h4 h5' hg
        refine ⟨hb, hn, ?_, fun l hl => ?_⟩
        · rw [hc, List.flatMap_cons]
          have ex : mergeF La Lo x = [] := by
            unfold mergeF pick
            rw [hf]
            simp [sameS, outOf]
          rw [ex]; rfl
        · rcases List.mem_cons.1 hl with q | q
          · subst q; right; rw [sameS_symm]; exact hxy
          · exact hcf l q
      · have ha := (List.pairwise_cons.1 h2).1
        rw [mg_first Ln.n (fun k : Int × Option Rv × Option Rv => k.1) a La' _ (fun k hk => by have := hkeys k hk; show a.n < k.1; omega), List.foldl_cons] at hg ⊢
        have est : apK (Na, b, acc) (a.n, some a, none) = (Na, b, acc ++ [⟨a.n, a.r⟩]) := by
          simp only [apK, apS, aft, gapOf, Option.map_some, Option.map_none]
          rw [nextOf_same _ _ _ (h4 a (by simp))]
          simp [outOf]
        rw [est] at hg ⊢
        obtain ⟨hb, hn, hc, hcf⟩ := main_merge Na N hN Lo L La' _ _ h1' (List.pairwise_cons.1 h2).2 h3' (fun a' ha' => h4 a' (by simp [ha'])) (fun a' ha' haN => by
          obtain ⟨l, hl, e⟩ := h5 a' (by simp [ha']) haN
          rcases List.mem_cons.1 hl with q | q
          · exfalso; subst q; have := ha a' ha'; omega
          · exact ⟨l, q, e⟩) hg
        have hfind : ∀ l ∈ L, findS (a :: La') l.n = findS La' l.n := fun l hl => by
          rw [findS_cons, if_neg (by have := hx l hl; omega)]
        have hfx : findS (a :: La') x.n = some a.r := by rw [findS_cons, if_pos hax]
        refine ⟨hb, hn, ?_, fun l hl => ?_⟩
        · rw [hc, List.flatMap_cons, flat_same (a :: La') La' Lo L hfind]
          have efr : freshL N (a :: La') = freshL N La' := by
            have q : decide (a.n < N) = true := decide_eq_true (by omega)
            simp [freshL, List.dropWhile_cons, q]
          have ex : Ct (mergeF (a :: La') Lo x) = Ct [⟨a.n, a.r⟩] := by
            unfold mergeF pick
            rw [hfx]
            cases hq : sameS (some a.r) (some x.r) with
            | false => simp [outOf, Ct, hax]
            | true =>
              cases hy : findS Lo x.n with
              | none => rw [hy] at hxy; simp [sameS] at hxy
              | some r' =>
                rw [hy] at hxy
                simp only [sameS, Option.map_some, Option.some.injEq, decide_eq_true_eq] at hxy hq
                simp [outOf, Ct, hax, hq, hxy]
          rw [efr, ct_app (mergeF (a :: La') Lo x ++ _) _, ct_app (mergeF (a :: La') Lo x) _, ex]
          simp [Ct]
        · rcases List.mem_cons.1 hl with q | q
          · subst q; right; rw [sameS_symm]; exact hxy
          · rw [hfind l q]; exact hcf l q
theorem evL_len (Lo : List Ln) (l : Ln) : (evL Lo l).length ≤ 2 := by
  unfold evL evK
  split
  · simp
  · cases h : (keyL Lo l).2.1 <;> cases h2 : (keyL Lo l).2.2 <;> simp [wentOf, cameOf]
theorem lines_len (Lo : List Ln) : ∀ L : List Ln, (L.flatMap (evL Lo)).length ≤ 2 * L.length
  | [] => by simp
  | x :: L => by
    rw [List.flatMap_cons, List.length_append, List.length_cons]
    have := evL_len Lo x
    have := lines_len Lo L
    omega
/-- the law, plainly: the feed is one; where there is no gap the merge does what the feed says -/
theorem top_plain (N Na : Int) (L La Lo : List Ln) (hR : Rising N L) (h1 : N ≤ 1000000) (hRa : Rising Na La) (hNa : N ≤ Na) (hRo : Lo.Pairwise (fun x y => x.n < y.n)) (hLo : ∀ o ∈ Lo, ∃ l ∈ L, l.n = o.n) (hLa : ∀ a ∈ La, a.n < N → ∃ l ∈ L, l.n = a.n) :
    FeedOk (feedE L Lo) ∧ (feedE L Lo).length ≤ 2 * L.length ∧ ((applyR Na La (feedE L Lo)).2.1 = false → (applyR Na La (feedE L Lo)).1 = Na ∧ Ct (applyR Na La (feedE L Lo)).2.2 = Ct (mergeR N L La Lo) ∧ ∀ l ∈ L, sameS (findS La l.n) (some l.r) = true ∨ sameS (findS Lo l.n) (some l.r) = true) := by
  rw [feed_lines L Lo hR.2 hRo hLo]
  refine ⟨lines_ok Lo L hR.2 (fun l hl => by have := hR.1 l hl; omega), lines_len Lo L, fun hg => ?_⟩
  have hi : itemsK (L.flatMap (evL Lo)) = (L.filter (ns Lo)).map (keyL Lo) := by
    unfold itemsK
    rw [items_fold Lo L [] hR.2 (by simp)]
    simp
  unfold applyR at hg ⊢
  rw [hi] at hg ⊢
  obtain ⟨_, hn, hc, hcf⟩ := main_merge Na N hNa Lo L La [] false hR.2 hRa.2 (fun l hl => (hR.1 l hl).2) (fun a ha => (hRa.1 a ha).2) hLa hg
  exact ⟨hn, by rw [hc]; simp [Ct, mergeR], hcf⟩
theorem find_mem {L : List Ln} {n : Int} (h : ∃ l ∈ L, l.n = n) : ∃ r, findS L n = some r := by
  unfold findS
  cases hf : L.find? (·.n == n) with
  | none =>
    exfalso
    obtain ⟨l, hl, e⟩ := h
    have := List.find?_eq_none.1 hf l hl
    simp [e] at this
  | some l => exact ⟨l.r, rfl⟩
end Go.Proofs.Ytkonoojmhjinpaa

set_option linter.all false
namespace Go.Proofs.Ytkonoojmhjinpaa
open Go.RowKit Go.Fen
set_option linter.unusedVariables false
set_option maxHeartbeats 16000000

theorem Try.n27 : (Try.prog.info? 27).map (·.size) = some 8 := by kernel_rfl
theorem merge_len (N : Int) (L La Lo : List Ln) : (mergeR N L La Lo).length ≤ L.length + La.length := by
  unfold mergeR
  have h1 : (freshL N La).length ≤ La.length := by unfold freshL; exact (List.dropWhile_sublist _).length_le
  have h2 : ∀ K : List Ln, (K.flatMap (mergeF La Lo)).length ≤ K.length := by
    intro K
    induction K with
    | nil => simp
    | cons x K ih =>
      have : (mergeF La Lo x).length ≤ 1 := by
        unfold mergeF
        cases pick (findS La x.n) (some x.r) (findS Lo x.n) <;> simp [outOf]
      simp only [List.flatMap_cons, List.length_append, List.length_cons]
      omega
  have := h2 L
  rw [List.length_append]
  omega
/-- an edit's cells -/
def edC (go ch : Int) (b : Option Addr) (m d : Nat) (sk : Nat) : List Value := [.int .u32 go, .int .u32 ch, .slice b m d, .int .u8 sk]
set_option maxRecDepth 40000 in
theorem top_walk (a0 : Option Addr) (L0 : List Ch) (n0 c0 : Nat) (a1 : Option Addr) (V : List Rr) (n1 c1 : Nat) (go1 ch1 : Int) (b1 : Option Addr) (V1 : List Rr) (m1 d1 sk1 : Nat) (go2 ch2 : Int) (b2 : Option Addr) (V2 : List Rr) (m2 d2 sk2 : Nat) (w : World)
    (hn0 : n0 = L0.length) (hn0' : n0 ≤ 9223372036854775807) (hL0 : Ls 8 chc w a0 L0) (hn1 : n1 = V.length) (hn1' : n1 ≤ 9223372036854775807) (hV : Raw w a1 V) (hm1 : m1 = V1.length) (hm1' : m1 ≤ 9223372036854775807) (hV1 : Raw w b1 V1) (hm2 : m2 = V2.length) (hm2' : m2 ≤ 9223372036854775807) (hV2 : Raw w b2 V2)
    (hg1 : 0 ≤ go1 ∧ go1 < 4294967296) (hc1 : 0 ≤ ch1 ∧ ch1 < 4294967296) (hs1 : sk1 < 256) (hg2 : 0 ≤ go2 ∧ go2 < 4294967296) (hc2 : 0 ≤ ch2 ∧ ch2 < 4294967296) (hs2 : sk2 < 256) :
    Calls Try.prog 3 #[.slice a0 n0 c0, .slice a1 n1 c1, .agg #[.int .u32 go1, .int .u32 ch1, .slice b1 m1 d1, .int .u8 sk1, .int .u32 go2, .int .u32 ch2, .slice b2 m2 d2, .int .u8 sk2]] w fun e w' => e = .returned (.bool true) ∧ Below w.heap.size w w' := by
  have raw_bel : ∀ {w w' : World} {a : Option Addr} {L : List Rr}, Raw w a L → Below w.heap.size w w' → Raw w' a L := fun h hb => ⟨h.1.bel hb, fun r hr => ⟨(h.2 r hr).1.bel hb, (h.2 r hr).2⟩⟩
  have HM := Lib.hid (fun X (h : Below w.heap.size w X) => made_any a0 L0 n0 c0 8 X hn0 hn0' (by omega) (hL0.bel h))
  have HT := Lib.hid (fun X (h : Below w.heap.size w X) v (hS : Sch 400 X v) => table_any 400 v a1 V n1 c1 12 X (by omega) hS hn1 hn1' (by omega) (raw_bel hV h))
  have HR1 := Lib.hid (fun X (h : Below w.heap.size w X) v (hS : Sch 400 X v) vb N L (hTb : Tb X vb N L) hR h0 h1 hL => branch_any 400 v vb N L go1 ch1 b1 V1 m1 d1 sk1 X (by omega) hS hTb hR h0 h1 hL hm1 hm1' (raw_bel hV1 h) hg1 hc1 hs1)
  have HR2 := Lib.hid (fun X (h : Below w.heap.size w X) v (hS : Sch 400 X v) vb N L (hTb : Tb X vb N L) hR h0 h1 hL => branch_any 400 v vb N L go2 ch2 b2 V2 m2 d2 sk2 X (by omega) hS hTb hR h0 h1 hL hm2 hm2' (raw_bel hV2 h) hg2 hc2 hs2)
  obtain ⟨g, eg⟩ : ∃ g, g = w.heap.size := ⟨_, rfl⟩
  obtain ⟨W0, hW0⟩ : ∃ W, W = w.alloc (.cells #[.int .u32 go1, .int .u32 ch1, .slice b1 m1 d1, .int .u8 sk1, .int .u32 go2, .int .u32 ch2, .slice b2 m2 d2, .int .u8 sk2] 27) := ⟨_, rfl⟩
  have b0 : Below w.heap.size w W0 := by rw [hW0]; exact (Below.refl _ _).alloc (Nat.le_refl _) _
  have R0 : Row W0 g 27 #[.int .u32 go1, .int .u32 ch1, .slice b1 m1 d1, .int .u8 sk1, .int .u32 go2, .int .u32 ch2, .slice b2 m2 d2, .int .u8 sk2] := by rw [hW0, eg]; exact Row.new w 27 _
  have HW0 := Lib.hid hW0
  have EG := Lib.hid eg
  have HB0 := Lib.hid b0
  have HR0 := Lib.hid R0
  clear hW0 eg b0 R0 hn0 hn0' hL0 hn1 hn1' hV hm1 hm1' hV1 hm2 hm2' hV2 hg1 hc1 hs1 hg2 hc2 hs2 raw_bel
  go_enter Try.func3, Try.ntmps3
  go_wp2_with (first | ((with_reducible show wpList _ _ _ (Oper.mk _ (Op.box _ _) _ _ _ _ :: _) _ _); (refine wpList_box_row rfl 27 (.tmp 2) rfl _ rfl g EG.out ?_; refine wpList_atE HW0.out ?_)))
  refine (sanity_any W0).mono ?_
  rintro e w1 ⟨rfl, hb1⟩
  have HB1 := Lib.hid (bel_tr HB0.out hb1)
  have HR0 := Lib.hid (HR0.out.below hb1 HR0.out.lt)
  clear hb1
  go_wp2_with fail
  refine (HM.out w1 HB1.out).mono ?_
  rintro e w2 ⟨⟨aM, M, cM, rfl, hM8, hM⟩, hb2⟩
  have HB2 := Lib.hid (bel_tr HB1.out hb2)
  have HR0 := Lib.hid (HR0.out.below hb2 HR0.out.lt)
  have HCA := Lib.hid (after_any aM M M.length cM w2 rfl (by omega) hM)
  clear hb2 hM
  go_wp2_with fail
  refine HCA.out.mono ?_
  rintro e w3 ⟨⟨vS, x3, y3, rfl, hS⟩, hb3⟩
  have HB3 := Lib.hid (bel_tr HB2.out hb3)
  have HR0 := Lib.hid (HR0.out.below hb3 HR0.out.lt)
  obtain ⟨aS, nS, cS, nx, eS⟩ : ∃ aS nS cS nx, vS = .agg #[.slice aS nS cS, .int .i64 nx] := by obtain ⟨a, F, c, nx, e, _⟩ := hS; exact ⟨a, F.length, c, nx, e⟩
  subst eS
  obtain ⟨gs, hgs⟩ : ∃ z, z = w3.heap.size := ⟨_, rfl⟩
  obtain ⟨W4, hW4⟩ : ∃ W, W = w3.alloc (.cells #[.slice aS nS cS, .int .i64 nx] 31) := ⟨_, rfl⟩
  have b4 : Below w3.heap.size w3 W4 := by rw [hW4]; exact (Below.refl _ _).alloc (Nat.le_refl _) _
  have RS : Row W4 gs 31 #[.slice aS nS cS, .int .i64 nx] := by rw [hW4]; exact Row.new' 31 _ hgs
  have R04 := HR0.out.below b4 HR0.out.lt
  have HB4 := Lib.hid (bel_tr HB3.out b4)
  have HK4 := Lib.hid (fun X (h : Below W4.heap.size W4 X) => (show Row X g 27 #[.int .u32 go1, .int .u32 ch1, .slice b1 m1 d1, .int .u8 sk1, .int .u32 go2, .int .u32 ch2, .slice b2 m2 d2, .int .u8 sk2] ∧ Row X gs 31 #[.slice aS nS cS, .int .i64 nx] ∧ Sch 400 X (.agg #[.slice aS nS cS, .int .i64 nx]) ∧ Below w.heap.size w X from ⟨R04.below h R04.lt, RS.below h RS.lt, (hS.bel b4).bel h, bel_tr HB4.out h⟩))
  have HGS := Lib.hid hgs
  have HW4 := Lib.hid hW4
  have K4 := HK4.out W4 (Below.refl _ _)
  have HK := Lib.hid K4
  have HCT := Lib.hid (HT.out W4 HB4.out _ K4.2.2.1)
  clear hgs hW4 b4 RS R04 hS hb3 K4 hM8
  go_wp2_with (first | ((with_reducible show wpList _ _ _ (Oper.mk _ (Op.alloc _) _ _ _ _ :: _) _ _); (refine wpList_new_row rfl rfl 31 8 (.tmp 27) rfl rfl rfl rfl gs HGS.out #[.slice aS nS cS, .int .i64 nx] rfl rfl _ Try.z31 Try.n31 rfl (by simp [Value.oneCell']) ?_; refine wpList_atE HW4.out ?_)) | ((with_reducible show wpList _ _ _ (Oper.mk _ (Op.load _ _) _ _ _ _ :: _) _ _); (refine wpList_load_row rfl 31 (.tmp 8) rfl gs rfl 31 #[.slice aS nS cS, .int .i64 nx] (0, 0) _ HK.out.2.1 Try.underlying31 rfl Try.n31 ?_)))
  refine HCT.out.mono ?_
  rintro e w5 ⟨⟨vb, N, L, rfl, hTb, hRi, hLl, hN0, hN1⟩, hb5⟩
  have hN24 : N ≤ 24 := by simpa using hN1
  obtain ⟨aB, cB, rfl, _, _⟩ := id hTb
  obtain ⟨gb, hgb⟩ : ∃ z, z = w5.heap.size := ⟨_, rfl⟩
  obtain ⟨W6, hW6⟩ : ∃ W, W = w5.alloc (.cells #[.int .i64 N, .slice aB L.length cB] 38) := ⟨_, rfl⟩
  have b6 : Below w5.heap.size w5 W6 := by rw [hW6]; exact (Below.refl _ _).alloc (Nat.le_refl _) _
  have RB : Row W6 gb 38 #[.int .i64 N, .slice aB L.length cB] := by rw [hW6]; exact Row.new' 38 _ hgb
  have b46 := bel_tr hb5 b6
  have HK6 := Lib.hid (fun X (h : Below W6.heap.size W6 X) => (show Row X gb 38 #[.int .i64 N, .slice aB L.length cB] ∧ Tb X (.agg #[.int .i64 N, .slice aB L.length cB]) N L ∧ Row X g 27 #[.int .u32 go1, .int .u32 ch1, .slice b1 m1 d1, .int .u8 sk1, .int .u32 go2, .int .u32 ch2, .slice b2 m2 d2, .int .u8 sk2] ∧ Row X gs 31 #[.slice aS nS cS, .int .i64 nx] ∧ Sch 400 X (.agg #[.slice aS nS cS, .int .i64 nx]) ∧ Below w.heap.size w X from ⟨RB.below h RB.lt, (hTb.bel b6).bel h, HK4.out X (bel_tr b46 h)⟩))
  have K6 := HK6.out W6 (Below.refl _ _)
  have HK := Lib.hid K6
  have HC1 := Lib.hid (HR1.out W6 K6.2.2.2.2.2 _ K6.2.2.2.2.1 _ N L K6.2.1 hRi hN0 (by omega) (by omega))
  have HRi := Lib.hid hRi
  have HNN := Lib.hid (show 0 ≤ N ∧ N ≤ 24 ∧ L.length ≤ 12 from ⟨hN0, hN24, hLl⟩)
  have HGB := Lib.hid hgb
  have HW6 := Lib.hid hW6
  clear hgb hW6 b6 RB b46 K6 hTb hRi hLl hN1 hb5
  go_wp2_with (first | ((with_reducible show wpList _ _ _ (Oper.mk _ (Op.alloc _) _ _ _ _ :: _) _ _); (refine wpList_new_row rfl rfl 38 11 (.tmp 32) rfl rfl rfl rfl gb HGB.out #[.int .i64 N, .slice aB L.length cB] rfl rfl _ Try.z38 Try.n38 rfl (by simp [Value.oneCell']) ?_; refine wpList_atE HW6.out ?_)) | ((with_reducible show wpList _ _ _ (Oper.mk _ (Op.load _ _) _ _ _ _ :: _) _ _); (first | (refine wpList_load_row rfl 31 (.tmp 8) rfl gs rfl 31 #[.slice aS nS cS, .int .i64 nx] (0, 0) _ HK.out.2.2.2.1 Try.underlying31 rfl Try.n31 ?_) | (refine wpList_load_row rfl 38 (.tmp 11) rfl gb rfl 38 #[.int .i64 N, .slice aB L.length cB] (0, 0) _ HK.out.1 Try.underlying38 rfl Try.n38 ?_) | (refine wpList_load_mid rfl 26 (.tmp 35) rfl g 0 rfl [.int .u32 go1, .int .u32 ch1, .slice b1 m1 d1, .int .u8 sk1] _ (by intro j v hv; refine (HK.out.2.2.1.cell (0 + j)).trans ?_; match j, hv with | 0, hv => exact hv | 1, hv => exact hv | 2, hv => exact hv | 3, hv => exact hv | (n + 4), hv => cases hv) Try.underlying26 rfl Try.n26 ?_))))
  refine HC1.out.mono ?_
  rintro e w7 ⟨⟨va, Na, La, rfl, hTa, hRa, hNa1, hNa2, hLa, hmA⟩, hb7⟩
  obtain ⟨aA, cA, rfl, _, _⟩ := id hTa
  obtain ⟨ga, hga⟩ : ∃ z, z = w7.heap.size := ⟨_, rfl⟩
  obtain ⟨W8, hW8⟩ : ∃ W, W = w7.alloc (.cells #[.int .i64 Na, .slice aA La.length cA] 38) := ⟨_, rfl⟩
  have b8 : Below w7.heap.size w7 W8 := by rw [hW8]; exact (Below.refl _ _).alloc (Nat.le_refl _) _
  have RA : Row W8 ga 38 #[.int .i64 Na, .slice aA La.length cA] := by rw [hW8]; exact Row.new' 38 _ hga
  have b68 := bel_tr hb7 b8
  have HK8 := Lib.hid (fun X (h : Below W8.heap.size W8 X) => (show Row X ga 38 #[.int .i64 Na, .slice aA La.length cA] ∧ Tb X (.agg #[.int .i64 Na, .slice aA La.length cA]) Na La ∧ Row X gb 38 #[.int .i64 N, .slice aB L.length cB] ∧ Tb X (.agg #[.int .i64 N, .slice aB L.length cB]) N L ∧ Row X g 27 #[.int .u32 go1, .int .u32 ch1, .slice b1 m1 d1, .int .u8 sk1, .int .u32 go2, .int .u32 ch2, .slice b2 m2 d2, .int .u8 sk2] ∧ Row X gs 31 #[.slice aS nS cS, .int .i64 nx] ∧ Sch 400 X (.agg #[.slice aS nS cS, .int .i64 nx]) ∧ Below w.heap.size w X from ⟨RA.below h RA.lt, (hTa.bel b8).bel h, HK6.out X (bel_tr b68 h)⟩))
  have K8 := HK8.out W8 (Below.refl _ _)
  have HK := Lib.hid K8
  have HC2 := Lib.hid (HR2.out W8 K8.2.2.2.2.2.2.2 _ K8.2.2.2.2.2.2.1 _ N L K8.2.2.2.1 HRi.out hN0 (by omega) (by have := HNN.out; omega))
  have HRa := Lib.hid hRa
  have HNA := Lib.hid (show N ≤ Na ∧ Na ≤ N + 8 ∧ La.length ≤ L.length + 6 ∧ ∀ l ∈ La, l.n < N → ∃ l0 ∈ L, l0.n = l.n from ⟨hNa1, hNa2, hLa, hmA⟩)
  have HGA := Lib.hid hga
  have HW8 := Lib.hid hW8
  clear hga hW8 b8 RA b68 K8 hTa hRa hNa1 hNa2 hLa hmA hb7
  go_wp2_with (first | ((with_reducible show wpList _ _ _ (Oper.mk _ (Op.alloc _) _ _ _ _ :: _) _ _); (refine wpList_new_row rfl rfl 38 12 (.tmp 37) rfl rfl rfl rfl ga HGA.out #[.int .i64 Na, .slice aA La.length cA] rfl rfl _ Try.z38 Try.n38 rfl (by simp [Value.oneCell']) ?_; refine wpList_atE HW8.out ?_)) | ((with_reducible show wpList _ _ _ (Oper.mk _ (Op.load _ _) _ _ _ _ :: _) _ _); (first | (refine wpList_load_row rfl 31 (.tmp 8) rfl gs rfl 31 #[.slice aS nS cS, .int .i64 nx] (0, 0) _ HK.out.2.2.2.2.2.1 Try.underlying31 rfl Try.n31 ?_) | (refine wpList_load_row rfl 38 (.tmp 11) rfl gb rfl 38 #[.int .i64 N, .slice aB L.length cB] (0, 0) _ HK.out.2.2.1 Try.underlying38 rfl Try.n38 ?_) | (refine wpList_load_mid rfl 26 (.tmp 40) rfl g 4 rfl [.int .u32 go2, .int .u32 ch2, .slice b2 m2 d2, .int .u8 sk2] _ (by intro j v hv; refine (HK.out.2.2.2.2.1.cell (4 + j)).trans ?_; match j, hv with | 0, hv => exact hv | 1, hv => exact hv | 2, hv => exact hv | 3, hv => exact hv | (n + 4), hv => cases hv) Try.underlying26 rfl Try.n26 ?_))))
  refine HC2.out.mono ?_
  rintro e w9 ⟨⟨vc, Nc, Lc, rfl, hTc, hRc, hNc1, hNc2, hLc, hmC⟩, hb9⟩
  obtain ⟨aC, cC, rfl, _, _⟩ := id hTc
  obtain ⟨nC, hnC⟩ : ∃ n, n = Lc.length := ⟨_, rfl⟩
  rw [← hnC] at hTc ⊢
  obtain ⟨gc, hgc⟩ : ∃ z, z = w9.heap.size := ⟨_, rfl⟩
  obtain ⟨W10, hW10⟩ : ∃ W, W = w9.alloc (.cells #[.int .i64 Nc, .slice aC nC cC] 38) := ⟨_, rfl⟩
  have b10 : Below w9.heap.size w9 W10 := by rw [hW10]; exact (Below.refl _ _).alloc (Nat.le_refl _) _
  have RC : Row W10 gc 38 #[.int .i64 Nc, .slice aC nC cC] := by rw [hW10]; exact Row.new' 38 _ hgc
  have b810 := bel_tr hb9 b10
  have HKc := Lib.hid (fun X (h : Below W10.heap.size W10 X) => (show Row X gc 38 #[.int .i64 Nc, .slice aC nC cC] ∧ Tb X (.agg #[.int .i64 Nc, .slice aC nC cC]) Nc Lc ∧ Row X ga 38 #[.int .i64 Na, .slice aA La.length cA] ∧ Tb X (.agg #[.int .i64 Na, .slice aA La.length cA]) Na La ∧ Row X gb 38 #[.int .i64 N, .slice aB L.length cB] ∧ Tb X (.agg #[.int .i64 N, .slice aB L.length cB]) N L ∧ Below w.heap.size w X from by
    have q := HK8.out X (bel_tr b810 h)
    exact ⟨RC.below h RC.lt, (hTc.bel b10).bel h, q.1, q.2.1, q.2.2.1, q.2.2.2.1, q.2.2.2.2.2.2.2⟩))
  have HRc := Lib.hid hRc
  have HNC := Lib.hid (show Lc.length ≤ L.length + 6 ∧ ∀ l ∈ Lc, l.n < N → ∃ l0 ∈ L, l0.n = l.n from ⟨hLc, hmC⟩)
  obtain ⟨go, hgo⟩ : ∃ z, z = W10.heap.size := ⟨_, rfl⟩
  obtain ⟨V0, hV0⟩ : ∃ W, W = W10.alloc (.cells #[.int .i64 N, .slice none 0 0] 38) := ⟨_, rfl⟩
  have bV : Below W10.heap.size W10 V0 := by rw [hV0]; exact (Below.refl _ _).alloc (Nat.le_refl _) _
  have RO : Row V0 go 38 #[.int .i64 N, .slice none 0 0] := by rw [hV0]; exact Row.new' 38 _ hgo
  have HA0 := Lib.hid (show AccG V0 go 38 (mkT N) 45 2 (.slice none 0 0) 0 (([] : List Ln).flatMap lnc) V0 from ⟨World.ownsRow_nil _ _ _ _, RO, grown_refl _ _⟩)
  have HRO := Lib.hid RO
  have HBV := Lib.hid bV
  have KV := HKc.out V0 bV
  have HTCV := Lib.hid KV.2.1
  have kb : W10.cell? ⟨gb, 0, none⟩ = some (.int .i64 N) := (HKc.out W10 (Below.refl _ _)).2.2.2.2.1.cell 0
  have kc : V0.cell? ⟨gc, 1, none⟩ = some (.slice aC nC cC) := KV.1.cell 1
  have HGC := Lib.hid hgc
  have HNL := Lib.hid hnC
  have HW10 := Lib.hid hW10
  have HGO := Lib.hid hgo
  have HV0 := Lib.hid hV0
  clear hnC hgc hW10 b10 RC b810 hTc hRc hNc1 hNc2 hLc hmC hb9 hgo hV0 bV RO KV
  go_wp2_with (first | ((with_reducible show wpList _ _ _ (Oper.mk _ (Op.alloc _) _ _ _ _ :: _) _ _); (first | (refine wpList_new_row rfl rfl 38 13 (.tmp 42) rfl rfl rfl rfl gc HGC.out #[.int .i64 Nc, .slice aC nC cC] rfl rfl _ Try.z38 Try.n38 rfl (by simp [Value.oneCell']) ?_; refine wpList_atE HW10.out ?_) | (refine wpList_new_row rfl rfl 38 14 (.tmp 45) rfl rfl rfl rfl go HGO.out #[.int .i64 N, .slice none 0 0] rfl rfl _ Try.z38 Try.n38 rfl (by simp [Value.oneCell']) ?_; refine wpList_atE HV0.out ?_))))
  clear kb kc
  go_loopw [15] (fun iv wr => ∃ (k : Nat) (u : Value) (O : List Ln), k ≤ nC ∧ iv = .int .i64 k ∧ O = (Lc.take k).filter (fun l => decide (l.n < N)) ∧ AccG V0 go 38 (mkT N) 45 2 u O.length (O.flatMap lnc) wr) (fun iv _ => nC - (intOf iv).toNat)
  case atStart => exact ⟨0, _, [], by omega, rfl, by simp, HA0.out⟩
  case round =>
    obtain ⟨k, u, O, hk, rfl, hO, hA⟩ := hrel
    have HA := Lib.hid hA
    have HO := Lib.hid hO
    have HOL := Lib.hid (show O.length ≤ 1000 from by
      have q := List.length_filter_le (fun l : Ln => decide (l.n < N)) (Lc.take k)
      rw [← hO] at q
      simp at q
      have := HNC.out.1
      have := HNN.out.2.2
      omega)
    have BA := hA.bel (B := go) (Nat.le_refl _) (Nat.le_of_lt HRO.out.lt)
    have BW : Below W10.heap.size W10 wr := HBV.out.trans (by rw [← HGO.out]; exact BA)
    have KW := HKc.out wr BW
    have j1 : wr.cell? ⟨gc, 1, none⟩ = some (.slice aC nC cC) := KW.1.cell 1
    have jb : wr.cell? ⟨gb, 0, none⟩ = some (.int .i64 N) := KW.2.2.2.2.1.cell 0
    have hlw : Lns wr aC Lc := by
      obtain ⟨a', c', e', _, h⟩ := KW.2.1
      have q : aC = a' := by simp at e'; exact e'.1
      rw [q]; exact h
    have HLW := Lib.hid hlw
    by_cases hkn : k < nC
    · have ki : (k : Int) < (nC : Int) := by omega
      obtain ⟨gl, ol, rfl, hgl, hcl⟩ := hlw.1.form (by rw [← HNL.out]; omega)
      obtain ⟨l, hl⟩ : ∃ f, Lc[k]? = some f := ⟨_, List.getElem?_eq_getElem (by rw [← HNL.out]; omega)⟩
      have c0 : wr.cell? ⟨gl, ol + k * 2, none⟩ = some (.int .i64 l.n) := by have := hcl k l hl 0 _ rfl; rw [Nat.add_zero] at this; exact this
      have c1 : wr.cell? ⟨gl, ol + k * 2 + 1, none⟩ = some (rvv l.r) := hcl k l hl 1 _ rfl
      have k41 : wr.cell? ⟨go, 1, none⟩ = some u := hA.2.1.cell 1
      have k3a : ∀ (q : Nat) (o : Obj), ((wr.drewN q).alloc o).cell? ⟨go, 1, none⟩ = some u := fun q o => (((below_drewN (Below.refl wr.heap.size wr) q).alloc (Nat.le_refl _) o).cell (p := ⟨go, 1, none⟩) hA.2.1.lt).trans k41
      have HKN := Lib.hid hkn
      have HL := Lib.hid hl
      have k1000 : k ≤ 1000 := by have := HNL.out; have := HNC.out.1; have := HNN.out.2.2; omega
      clear hkn hk hgl hcl hl hlw KW BW BA hO hA
      by_cases hln : l.n < N
      · have hf : (Lc.take (k + 1)).filter (fun l => decide (l.n < N)) = O ++ [l] := by
          rw [List.take_add_one, HL.out]; simp [List.filter_append, hln, HO.out]
        have HF := Lib.hid hf
        clear hf
        go_wp2_with fail
        go_quiet (fail)
        go_wp2_with fail
        have HA2 := Lib.hid (HA.out.drewN nq)
        go_region_law (refine step_pushK rfl (.tmp 63) (.tmp 69) 36 45 rfl _ 2 32 Try.underlying36 Try.info45 rfl (by decide) (by decide) V0.heap.size u O.length (O.flatMap lnc) rfl (wr.drewN nq).drew _ (lnc l) rfl (one_lnc _) rfl (HA2.out.drewN 1).1 (HA2.out.drewN 1).2.2.size wr.heap.size rfl rfl (by have := HOL.out; omega) (fun ge ce w' hv' hg => ?_); obtain ⟨hrow, hAF⟩ := AccG.push (HA2.out.drewN 1) HRO.out.lt ((Below.refl _ _).alloc (Nat.le_refl _) _) hv' hg 1 rfl; have z3 : w'.cell? ⟨go, 1, none⟩ = some u := hrow.cell 1; have z4 := hrow.frozen 1; have HAF := Lib.hid hAF; clear hAF hrow hv' hg)
        all_goals
          go_wp2_with fail
          go_roundw
          case rel => exact ⟨k + 1, _, O ++ [l], HKN.out, by go_num, HF.out.symm, by rw [List.length_append, ← fl_snoc]; exact HAF.out⟩
          case measure => have := HKN.out; simp [intOf] <;> omega
      · have hf : (Lc.take (k + 1)).filter (fun l => decide (l.n < N)) = O := by
          rw [List.take_add_one, HL.out]; simp [List.filter_append, hln, HO.out]
        have HF := Lib.hid hf
        clear hf
        go_wp2_with fail
        go_quiet (fail)
        go_wp2_with fail
        have HA2 := Lib.hid (HA.out.drewN nq)
        go_roundw
        case rel => exact ⟨k + 1, u, O, HKN.out, by go_num, HF.out.symm, HA2.out⟩
        case measure => have := HKN.out; simp [intOf] <;> omega
    · have ki : ¬ (k : Int) < (nC : Int) := by omega
      have hOf : O = Lc.filter (fun l => decide (l.n < N)) := by rw [hO, List.take_of_length_le (by rw [← HNL.out]; omega)]
      have hRO : Rising N O := by
        rw [hOf]
        exact ⟨fun l hl => ⟨(HRc.out.1 l ((List.mem_filter.1 hl).1)).1, by simpa using (List.mem_filter.1 hl).2⟩, HRc.out.2.filter _⟩
      have hOin : ∀ o ∈ O, ∃ l ∈ L, l.n = o.n := fun o ho => HNC.out.2 o (by rw [hOf] at ho; exact (List.mem_filter.1 ho).1) (hRO.1 o ho).2
      have hTP := top_plain N Na L La O HRi.out (by have := HNN.out; omega) HRa.out HNA.out.1 hRO.2 hOin HNA.out.2.2.2
      obtain ⟨E, hE⟩ : ∃ z, z = feedE L O := ⟨_, rfl⟩
      rw [← hE] at hTP
      obtain ⟨gp, hgp⟩ : ∃ b, b = (applyR Na La E).2.1 := ⟨_, rfl⟩
      have hTo : Tb wr (.agg #[.int .i64 N, u]) N O := by
        obtain ⟨p, cap, e1, h1⟩ := own_cap hA.1
        obtain ⟨ax, cx, e2, h2⟩ := lt_of_own length_lnc hA.1 rfl
        have e3 : cap = cx := by rw [e1] at e2; simp at e2; exact e2.2
        exact ⟨ax, cx, by rw [e2], by omega, h2, fun l hl => hlw.2 l (by rw [hOf] at hl; exact (List.mem_filter.1 hl).1)⟩
      have HKL := Lib.hid (fun X (h : Below wr.heap.size wr X) => (show Row X ga 38 #[.int .i64 Na, .slice aA La.length cA] ∧ Tb X (.agg #[.int .i64 Na, .slice aA La.length cA]) Na La ∧ Row X gb 38 #[.int .i64 N, .slice aB L.length cB] ∧ Tb X (.agg #[.int .i64 N, .slice aB L.length cB]) N L ∧ Row X go 38 #[.int .i64 N, u] ∧ Tb X (.agg #[.int .i64 N, u]) N O ∧ Below w.heap.size w X from by
        have q := HKc.out X (bel_tr BW h)
        exact ⟨q.2.2.1, q.2.2.2.1, q.2.2.2.2.1, q.2.2.2.2.2.1, HA.out.2.1.below h HA.out.2.1.lt, hTo.bel h, q.2.2.2.2.2.2⟩))
      have HK := Lib.hid (HKL.out wr (Below.refl _ _))
      have HTP := Lib.hid hTP
      have HGP := Lib.hid hgp
      have HRO2 := Lib.hid (show Rising N O ∧ ∀ o ∈ O, ∃ l ∈ L, l.n = o.n from ⟨hRO, hOin⟩)
      have q := feed_any _ _ N N L O wr HK.out.2.2.2.1 HK.out.2.2.2.2.2.1 HRi.out hRO (by have := HNN.out; omega) (by have := HNN.out; omega) (by have := HNN.out; omega) HOL.out
      rw [← hE] at q
      have HFD := Lib.hid q
      clear q hE hgp hTP hOin hRO hTo hOf hkn hk hlw KW BW BA hO hA jb
      go_wp2_with (first | ((with_reducible show wpList _ _ _ (Oper.mk _ (Op.load _ _) _ _ _ _ :: _) _ _); (first | (refine wpList_load_row rfl 38 (.tmp 11) rfl gb rfl 38 #[.int .i64 N, .slice aB L.length cB] (0, 0) _ HK.out.2.2.1 Try.underlying38 rfl Try.n38 ?_) | (refine wpList_load_row rfl 38 (.tmp 14) rfl go rfl 38 #[.int .i64 N, u] (0, 0) _ HK.out.2.2.2.2.1 Try.underlying38 rfl Try.n38 ?_))))
      refine HFD.out.mono ?_
      rintro e w11 ⟨af, cf, nf, rfl, hnf, hEv, hb11⟩
      have HK11 := Lib.hid (HKL.out w11 hb11)
      have hnf3 : nf ≤ 3000 := by have := HTP.out.2.1; have := HNN.out; omega
      have q := lfits_any _ Na La af E nf cf w11 HK11.out.2.1 HRa.out (by have := HNA.out; have := HNN.out; omega) (by have := HNA.out; have := HNN.out; omega) (by have := HNA.out; have := HNN.out; omega) hnf hEv HTP.out.1 hnf3
      rw [← HGP.out] at q
      have HFI := Lib.hid q
      have HEV := Lib.hid (show nf = E.length ∧ nf ≤ 3000 ∧ Evs w11 af E ∧ Below wr.heap.size wr w11 from ⟨hnf, hnf3, hEv, hb11⟩)
      clear q hnf hnf3 hEv hb11 HK
      go_wp2_with (first | ((with_reducible show wpList _ _ _ (Oper.mk _ (Op.load _ _) _ _ _ _ :: _) _ _); (refine wpList_load_row rfl 38 (.tmp 12) rfl ga rfl 38 #[.int .i64 Na, .slice aA La.length cA] (0, 0) _ HK11.out.1 Try.underlying38 rfl Try.n38 ?_)))
      refine HFI.out.mono ?_
      rintro e w12 ⟨rfl, hb12⟩
      have HB12 := Lib.hid (bel_tr HEV.out.2.2.2 hb12)
      have HK12 := Lib.hid (HKL.out w12 HB12.out)
      have HAP := Lib.hid (lapply_any _ Na La af E nf cf w12 HK12.out.2.1 HRa.out (by have := HNA.out; have := HNN.out; omega) (by have := HNA.out; have := HNN.out; omega) (by have := HNA.out; have := HNN.out; omega) HEV.out.1 (HEV.out.2.2.1.bel hb12) HTP.out.1 HEV.out.2.1)
      clear hb12 HK11
      cases gp with
      | true =>
        go_wp2_with fail
        first | go_ret | ((try simp only [Exit.inBlock, Exit.then]); go_ret)
        exact ⟨rfl, HK12.out.2.2.2.2.2.2⟩
      | false =>
        have HT2 := Lib.hid (HTP.out.2.2 HGP.out.symm)
        go_wp2_with (first | ((with_reducible show wpList _ _ _ (Oper.mk _ (Op.load _ _) _ _ _ _ :: _) _ _); (refine wpList_load_row rfl 38 (.tmp 12) rfl ga rfl 38 #[.int .i64 Na, .slice aA La.length cA] (0, 0) _ HK12.out.1 Try.underlying38 rfl Try.n38 ?_)))
        refine HAP.out.mono ?_
        rintro e w13 ⟨hap, hb13⟩
        rcases hap with ⟨q, _⟩ | ⟨_, vw, rfl, hTw⟩
        · rw [← HGP.out] at q; cases q
        rw [HT2.out.1] at hTw
        obtain ⟨Lw, hLw⟩ : ∃ z, z = (applyR Na La E).2.2 := ⟨_, rfl⟩
        rw [← hLw] at hTw
        have HCt := Lib.hid (show Ct (mergeR N L La O) = Ct Lw from by rw [hLw]; exact HT2.out.2.1.symm)
        obtain ⟨aw, cw, rfl, _, _⟩ := id hTw
        obtain ⟨nw, hnw⟩ : ∃ n, n = Lw.length := ⟨_, rfl⟩
        rw [← hnw] at hTw ⊢
        obtain ⟨gw, hgw⟩ : ∃ z, z = w13.heap.size := ⟨_, rfl⟩
        obtain ⟨W14, hW14⟩ : ∃ W, W = w13.alloc (.cells #[.int .i64 Na, .slice aw nw cw] 38) := ⟨_, rfl⟩
        have b14 : Below w13.heap.size w13 W14 := by rw [hW14]; exact (Below.refl _ _).alloc (Nat.le_refl _) _
        have RW : Row W14 gw 38 #[.int .i64 Na, .slice aw nw cw] := by rw [hW14]; exact Row.new' 38 _ hgw
        have HB14 := Lib.hid (bel_tr HB12.out (bel_tr hb13 b14))
        have HK14 := Lib.hid (HKL.out W14 HB14.out)
        have HTW := Lib.hid (show Row W14 gw 38 #[.int .i64 Na, .slice aw nw cw] ∧ Tb W14 (.agg #[.int .i64 Na, .slice aw nw cw]) Na Lw from ⟨RW, hTw.bel b14⟩)
        have HMG := Lib.hid (mmerge_any _ _ _ N Na N L La O W14 HK14.out.2.2.2.1 HK14.out.2.1 HK14.out.2.2.2.2.2.1 HRi.out HRa.out HRO2.out.1 (by have := HNN.out; omega) (by have := HNN.out; omega) (by have := HNA.out; have := HNN.out; omega) (by have := HNN.out; omega) (by have := HNN.out; omega) (by have := HNA.out; have := HNN.out; omega) HOL.out HNA.out.1 (Int.le_refl _) (fun l hl hlt => find_mem (HNA.out.2.2.2 l hl hlt)) (fun l hl hlt => find_mem (HRO2.out.2 l hl)) (fun l hl => (HRO2.out.1.1 l hl).2) HT2.out.2.2)
        have HGW := Lib.hid hgw
        have HW14 := Lib.hid hW14
        clear hgw hW14 b14 RW hTw hnw hLw hb13 HK12
        go_wp2_with (first | ((with_reducible show wpList _ _ _ (Oper.mk _ (Op.alloc _) _ _ _ _ :: _) _ _); (refine wpList_new_row rfl rfl 38 17 (.tmp 84) rfl rfl rfl rfl gw HGW.out #[.int .i64 Na, .slice aw nw cw] rfl rfl _ Try.z38 Try.n38 rfl (by simp [Value.oneCell']) ?_; refine wpList_atE HW14.out ?_)) | ((with_reducible show wpList _ _ _ (Oper.mk _ (Op.load _ _) _ _ _ _ :: _) _ _); (first | (refine wpList_load_row rfl 38 (.tmp 11) rfl gb rfl 38 #[.int .i64 N, .slice aB L.length cB] (0, 0) _ HK14.out.2.2.1 Try.underlying38 rfl Try.n38 ?_) | (refine wpList_load_row rfl 38 (.tmp 12) rfl ga rfl 38 #[.int .i64 Na, .slice aA La.length cA] (0, 0) _ HK14.out.1 Try.underlying38 rfl Try.n38 ?_) | (refine wpList_load_row rfl 38 (.tmp 14) rfl go rfl 38 #[.int .i64 N, u] (0, 0) _ HK14.out.2.2.2.2.1 Try.underlying38 rfl Try.n38 ?_))))
        refine HMG.out.mono ?_
        rintro e w15 ⟨⟨vm, rfl, hTm⟩, hb15⟩
        obtain ⟨M, hM⟩ : ∃ z, z = mergeR N L La O := ⟨_, rfl⟩
        rw [← hM] at hTm
        obtain ⟨am, cm, rfl, _, _⟩ := id hTm
        obtain ⟨nm, hnm⟩ : ∃ n, n = M.length := ⟨_, rfl⟩
        rw [← hnm] at hTm ⊢
        obtain ⟨gm, hgm⟩ : ∃ z, z = w15.heap.size := ⟨_, rfl⟩
        obtain ⟨W16, hW16⟩ : ∃ W, W = w15.alloc (.cells #[.int .i64 Na, .slice am nm cm] 38) := ⟨_, rfl⟩
        have b16 : Below w15.heap.size w15 W16 := by rw [hW16]; exact (Below.refl _ _).alloc (Nat.le_refl _) _
        have RM : Row W16 gm 38 #[.int .i64 Na, .slice am nm cm] := by rw [hW16]; exact Row.new' 38 _ hgm
        have b1416 := bel_tr hb15 b16
        have HB16 := Lib.hid (HKL.out W16 (bel_tr HB14.out b1416)).2.2.2.2.2.2
        have RW16 := HTW.out.1.below b1416 HTW.out.1.lt
        have y0 : W16.cell? ⟨gm, 0, none⟩ = some (.int .i64 Na) := RM.cell 0
        have y1 : W16.cell? ⟨gm, 1, none⟩ = some (.slice am nm cm) := RM.cell 1
        have y2 : W16.cell? ⟨gw, 0, none⟩ = some (.int .i64 Na) := RW16.cell 0
        have y3 : W16.cell? ⟨gw, 1, none⟩ = some (.slice aw nw cw) := RW16.cell 1
        have HST := Lib.hid (sameTable_true _ _ Na M Lw W16 (hTm.bel b16) (HTW.out.2.bel b1416) (by rw [hM]; exact HCt.out) (by rw [hM]; have := merge_len N L La O; have := HNA.out; have := HNN.out; omega))
        have HGM := Lib.hid hgm
        have HW16 := Lib.hid hW16
        clear hgm hW16 b16 RM b1416 RW16 hTm hnm hM hb15 HK14
        go_wp2_with (first | ((with_reducible show wpList _ _ _ (Oper.mk _ (Op.alloc _) _ _ _ _ :: _) _ _); (refine wpList_new_row rfl rfl 38 19 (.tmp 91) rfl rfl rfl rfl gm HGM.out #[.int .i64 Na, .slice am nm cm] rfl rfl _ Try.z38 Try.n38 rfl (by simp [Value.oneCell']) ?_; refine wpList_atE HW16.out ?_)))
        refine HST.out.mono ?_
        rintro e w17 ⟨rfl, hb17⟩
        go_wp2_with fail
        first | go_ret | ((try simp only [Exit.inBlock, Exit.then]); go_ret)
        exact ⟨rfl, bel_tr HB16.out hb17⟩
end Go.Proofs.Ytkonoojmhjinpaa
