/- From the row's premises to what the walk asks. Proved: if the changes of one branch, which adds no rows, fit the other one, merging the branches applies them (at most 12 rows); no condition. -/
import Derived.Test.YtkonoojmhjinpaaV
import Derived.Test.YtkonoojmhjinpaaS
import Derived.OpenShut
import Derived.ShutString
import Derived.ChangeOld
import Derived.Lib.SmallJoins
import Derived.Deep.Slices
import Derived.Test.YtkonoojmhjinpaaLw
set_option linter.all false
namespace Go.Proofs.Ytkonoojmhjinpaa
open Go.ChangeShapes Go.WideShapes Go.ChangeAt Go.WideMaps Go.WideElems Go.RowKit Go.Fen Go.Deep Go.Joins
set_option maxHeartbeats 1000000
set_option maxRecDepth 20000

theorem own : ownKnob Try.prog.godebug = none := by kernel_rfl
theorem laidOut : laidOutB Try.prog = true := by kernel_rfl
theorem Try.cells3 : Try.prog.cellsOf 3 = 1 := by kernel_rfl
theorem Try.cells2 : Try.prog.cellsOf 2 = 1 := by kernel_rfl
theorem Try.cells4 : Try.prog.cellsOf 4 = 1 := by kernel_rfl
theorem Try.cells5 : Try.prog.cellsOf 5 = 1 := by kernel_rfl
theorem Try.cells9 : Try.prog.cellsOf 9 = 1 := by kernel_rfl
theorem Try.cells23 : Try.prog.cellsOf 23 = 1 := by kernel_rfl
theorem Try.cells24 : Try.prog.cellsOf 24 = 1 := by kernel_rfl
theorem Try.cells26 : Try.prog.cellsOf 26 = 4 := by kernel_rfl
theorem Try.cells27 : Try.prog.cellsOf 27 = 8 := by kernel_rfl
theorem Try.cells56 : Try.prog.cellsOf 56 = 3 := by kernel_rfl
theorem Try.cells59 : Try.prog.cellsOf 59 = 1 := by kernel_rfl
theorem Try.cells76 : Try.prog.cellsOf 76 = 8 := by kernel_rfl

section
variable {H : Type} {enc : TypeId × Value → H} {w : World} {base : Nat} {sp : Nat → Bool} {held : Bool}

theorem lS {α : Type} {l : List α} {n : Nat} (h : l.length = n + 1) : ∃ a r, l = a :: r ∧ r.length = n := by
  cases l with
  | nil => simp at h
  | cons a r => exact ⟨a, r, rfl, by simpa using h⟩
theorem int_at {n : Nat} {t : TypeId} {k : IntKind} {v : Value} {y : DataW H × List MemPlace} (ht : Try.prog.underlying t = some (.int k)) (h : DataW.trod enc Try.prog w 0 (fun _ => true) held n t [v] = some y) : ∃ x : Int, v = .int k x ∧ (Lit.int k x).wf = true := by
  obtain ⟨x, e, _, hw⟩ := DataW.trod_int ht h
  simp at e
  exact ⟨x, e, hw⟩
theorem str_at {n : Nat} {v : Value} {y : DataW H × List MemPlace} (h : DataW.trod enc Try.prog w 0 (fun _ => true) held n 9 [v] = some y) : ∃ s : ByteArray, v = .string s ∧ s.size ≤ 9223372036854775807 := by
  obtain ⟨s, e, _, hs⟩ := DataW.trod_string Try.underlying9 h
  simp at e
  exact ⟨s, e, hs⟩
theorem bool_at {n : Nat} {v : Value} {y : DataW H × List MemPlace} (h : DataW.trod enc Try.prog w 0 (fun _ => true) held n 4 [v] = some y) : ∃ b : Bool, v = .bool b := by
  obtain ⟨b, e, _⟩ := DataW.trod_bool Try.underlying4 h
  simp at e
  exact ⟨b, e⟩
theorem change_cells {n : Nat} {cs : List Value} {y : DataW H × List MemPlace} (h : DataW.trod enc Try.prog w 0 (fun _ => true) held n 76 cs = some y) : ∃ c : Ch, cs = chc c := by
  obtain ⟨xs, m, _, _, hl, hsz, hf⟩ := DataW.trod_struct Try.underlying76 h
  rw [Try.cells76] at hl
  obtain ⟨c0, l0, rfl, hl0⟩ := lS hl
  obtain ⟨c1, l1, rfl, hl1⟩ := lS hl0
  obtain ⟨c2, l2, rfl, hl2⟩ := lS hl1
  obtain ⟨c3, l3, rfl, hl3⟩ := lS hl2
  obtain ⟨c4, l4, rfl, hl4⟩ := lS hl3
  obtain ⟨c5, l5, rfl, hl5⟩ := lS hl4
  obtain ⟨c6, l6, rfl, hl6⟩ := lS hl5
  obtain ⟨c7, l7, rfl, hl7⟩ := lS hl6
  obtain rfl := List.length_eq_zero_iff.1 hl7
  have hsz : xs.length = 8 := hsz
  obtain ⟨x0, rfl, _⟩ := int_at Try.underlying3 (show DataW.trod enc Try.prog w 0 (fun _ => true) held m 3 [c0] = some xs[0] from by have q : DataW.trod enc Try.prog w 0 (fun _ => true) held m 3 (List.take (Try.prog.cellsOf 3) (List.drop 0 _)) = xs[0]? := hf 0 _ rfl; rw [Try.cells3] at q; exact q.trans (List.getElem?_eq_getElem (by omega)))
  obtain ⟨x1, rfl, _⟩ := int_at Try.underlying3 (show DataW.trod enc Try.prog w 0 (fun _ => true) held m 3 [c1] = some xs[1] from by have q : DataW.trod enc Try.prog w 0 (fun _ => true) held m 3 (List.take (Try.prog.cellsOf 3) (List.drop 1 _)) = xs[1]? := hf 1 _ rfl; rw [Try.cells3] at q; exact q.trans (List.getElem?_eq_getElem (by omega)))
  obtain ⟨x2, rfl, _⟩ := int_at Try.underlying3 (show DataW.trod enc Try.prog w 0 (fun _ => true) held m 3 [c2] = some xs[2] from by have q : DataW.trod enc Try.prog w 0 (fun _ => true) held m 3 (List.take (Try.prog.cellsOf 3) (List.drop 2 _)) = xs[2]? := hf 2 _ rfl; rw [Try.cells3] at q; exact q.trans (List.getElem?_eq_getElem (by omega)))
  obtain ⟨s3, rfl, h3⟩ := str_at (show DataW.trod enc Try.prog w 0 (fun _ => true) held m 9 [c3] = some xs[3] from by have q : DataW.trod enc Try.prog w 0 (fun _ => true) held m 9 (List.take (Try.prog.cellsOf 9) (List.drop 3 _)) = xs[3]? := hf 3 _ rfl; rw [Try.cells9] at q; exact q.trans (List.getElem?_eq_getElem (by omega)))
  obtain ⟨s4, rfl, h4⟩ := str_at (show DataW.trod enc Try.prog w 0 (fun _ => true) held m 9 [c4] = some xs[4] from by have q : DataW.trod enc Try.prog w 0 (fun _ => true) held m 9 (List.take (Try.prog.cellsOf 9) (List.drop 4 _)) = xs[4]? := hf 4 _ rfl; rw [Try.cells9] at q; exact q.trans (List.getElem?_eq_getElem (by omega)))
  obtain ⟨x5, rfl, _⟩ := int_at Try.underlying3 (show DataW.trod enc Try.prog w 0 (fun _ => true) held m 3 [c5] = some xs[5] from by have q : DataW.trod enc Try.prog w 0 (fun _ => true) held m 3 (List.take (Try.prog.cellsOf 3) (List.drop 5 _)) = xs[5]? := hf 5 _ rfl; rw [Try.cells3] at q; exact q.trans (List.getElem?_eq_getElem (by omega)))
  obtain ⟨x6, rfl, _⟩ := int_at Try.underlying3 (show DataW.trod enc Try.prog w 0 (fun _ => true) held m 3 [c6] = some xs[6] from by have q : DataW.trod enc Try.prog w 0 (fun _ => true) held m 3 (List.take (Try.prog.cellsOf 3) (List.drop 6 _)) = xs[6]? := hf 6 _ rfl; rw [Try.cells3] at q; exact q.trans (List.getElem?_eq_getElem (by omega)))
  obtain ⟨s7, rfl, h7⟩ := str_at (show DataW.trod enc Try.prog w 0 (fun _ => true) held m 9 [c7] = some xs[7] from by have q : DataW.trod enc Try.prog w 0 (fun _ => true) held m 9 (List.take (Try.prog.cellsOf 9) (List.drop 7 _)) = xs[7]? := hf 7 _ rfl; rw [Try.cells9] at q; exact q.trans (List.getElem?_eq_getElem (by omega)))
  exact ⟨⟨x0, x1, x2, s3, s4, x5, x6, s7, h3, h4⟩, rfl⟩
theorem value_cells {n : Nat} {cs : List Value} {y : DataW H × List MemPlace} (h : DataW.trod enc Try.prog w 0 (fun _ => true) held n 56 cs = some y) : ∃ x : Vl, cs = vlc x := by
  obtain ⟨xs, m, _, _, hl, hsz, hf⟩ := DataW.trod_struct Try.underlying56 h
  rw [Try.cells56] at hl
  obtain ⟨c0, l0, rfl, hl0⟩ := lS hl
  obtain ⟨c1, l1, rfl, hl1⟩ := lS hl0
  obtain ⟨c2, l2, rfl, hl2⟩ := lS hl1
  obtain rfl := List.length_eq_zero_iff.1 hl2
  have hsz : xs.length = 3 := hsz
  obtain ⟨b, rfl⟩ := bool_at (show DataW.trod enc Try.prog w 0 (fun _ => true) held m 4 [c0] = some xs[0] from by have q : DataW.trod enc Try.prog w 0 (fun _ => true) held m 4 (List.take (Try.prog.cellsOf 4) (List.drop 0 _)) = xs[0]? := hf 0 _ rfl; rw [Try.cells4] at q; exact q.trans (List.getElem?_eq_getElem (by omega)))
  obtain ⟨x, rfl, _⟩ := int_at Try.underlying2 (show DataW.trod enc Try.prog w 0 (fun _ => true) held m 2 [c1] = some xs[1] from by have q : DataW.trod enc Try.prog w 0 (fun _ => true) held m 2 (List.take (Try.prog.cellsOf 2) (List.drop 1 _)) = xs[1]? := hf 1 _ rfl; rw [Try.cells2] at q; exact q.trans (List.getElem?_eq_getElem (by omega)))
  obtain ⟨s, rfl, _⟩ := str_at (show DataW.trod enc Try.prog w 0 (fun _ => true) held m 9 [c2] = some xs[2] from by have q : DataW.trod enc Try.prog w 0 (fun _ => true) held m 9 (List.take (Try.prog.cellsOf 9) (List.drop 2 _)) = xs[2]? := hf 2 _ rfl; rw [Try.cells9] at q; exact q.trans (List.getElem?_eq_getElem (by omega)))
  exact ⟨⟨b, x, s⟩, rfl⟩
/-- a slice that came in, as a list: each element's cells are some x's -/
theorem list_field {α : Type} [Inhabited α] {t e : TypeId} {k : Nat} (ht : Try.prog.underlying t = some (.slice e)) (hk : Try.prog.cellsOf e = k) (hk0 : 0 < k) (c : α → List Value) (hck : ∀ x, (c x).length = k) (P : α → Prop)
    (hel : ∀ (n : Nat) (cs : List Value) (y : DataW H × List MemPlace), DataW.trod enc Try.prog w 0 (fun _ => true) held n e cs = some y → ∃ x, cs = c x ∧ P x)
    {n : Nat} {v : Value} {y : DataW H × List MemPlace} (h : DataW.trod enc Try.prog w 0 (fun _ => true) held n t [v] = some y) :
    ∃ (a : Option Addr) (L : List α) (cap : Nat), v = .slice a L.length cap ∧ L.length ≤ 9223372036854775807 ∧ Ls k c w a L ∧ ∀ x ∈ L, P x := by
  rcases open_slice ht h with ⟨hcs, _⟩ | ⟨a, len, cap, m, n', D, Pl, hcs, _, hl, hm, hmm, _, hx⟩
  · simp at hcs
    exact ⟨none, [], 0, hcs, by simp, .inl rfl, by simp⟩
  · simp at hcs
    have hlm : len ≤ m := by simp at hmm; omega
    obtain ⟨T, hT⟩ := choose_lt (α := α) (n := len) (p := fun i x => (∀ j, j < k → w.cell? ((a.add (i * k)).add j) = (c x)[j]?) ∧ P x) (fun i hi => by
      obtain ⟨cs', h1, h2⟩ := hx i (by omega)
      rw [hk] at h1
      obtain ⟨_, _, hc⟩ := World.cells?_some h1
      obtain ⟨x, rfl, hp⟩ := hel _ _ _ h2
      exact ⟨x, hc, hp⟩)
    refine ⟨some a, (List.range len).map T, cap, by rw [hcs]; simp, by have : maxLen = 9223372036854775807 := rfl; simp; omega, ?_, fun x hx => ?_⟩
    · by_cases h0 : len = 0
      · exact .inl (by simp [h0])
      · obtain ⟨b, off, spot⟩ := a
        have hc0 := (hT 0 (by omega)).1 0 hk0
        have hsome : ∃ u, (c (T 0))[0]? = some u := ⟨_, List.getElem?_eq_getElem (by rw [hck]; exact hk0)⟩
        obtain ⟨u, hu⟩ := hsome
        rw [hu] at hc0
        have hspot : spot = none := by simpa [Addr.add] using World.cell?_spot hc0
        subst hspot
        refine .inr ⟨b, off, rfl, ?_, fun i x hx j u hu => ?_⟩
        · rw [addr_add, addr_add] at hc0
          exact World.block_lt_of_cell? _ _ hc0
        · simp only [List.getElem?_map] at hx
          have hi : i < len := by
            by_cases q : i < len
            · exact q
            · rw [List.getElem?_eq_none (by simpa using q)] at hx; cases hx
          rw [List.getElem?_range hi] at hx
          simp only [Option.map_some, Option.some.injEq] at hx
          subst hx
          have hj : j < k := by rw [← hck (T i)]; exact (List.getElem?_eq_some_iff.1 hu).1
          have := (hT i hi).1 j hj
          rw [addr_add, addr_add, hu] at this
          exact this
    · obtain ⟨i, hi, e⟩ := List.mem_map.1 hx
      rw [← e]
      exact (hT i (List.mem_range.1 hi)).2
instance : Inhabited Vl := ⟨⟨false, 0, ⟨#[]⟩⟩⟩
instance : Inhabited Rr := ⟨⟨none, 0, []⟩⟩
instance : Inhabited Ch := ⟨⟨0, 0, 0, ⟨#[]⟩, ⟨#[]⟩, 0, 0, ⟨#[]⟩, by decide, by decide⟩⟩
theorem okWide_array {t e : TypeId} {n : Nat} {r : Reach} {v : Value} (ht : Try.prog.underlying t = some (.array n e)) (h : Value.okWide Try.prog w r base t v) : ∃ cs, v = .agg cs ∧ cs.size = Try.prog.cellsOf t := by
  simp only [Value.okWide, ht] at h
  obtain ⟨cs, h1, h2, _⟩ := h
  exact ⟨cs, h1, h2⟩
theorem row_cells {n : Nat} {cs : List Value} {y : DataW H × List MemPlace} (h : DataW.trod enc Try.prog w 0 (fun _ => true) held n 59 cs = some y) : ∃ r : Rr, cs = rrc r ∧ (Ls 3 vlc w r.a r.V ∧ r.V.length ≤ 9223372036854775807) := by
  obtain ⟨v, rfl⟩ : ∃ v, cs = [v] := by
    rcases open_slice Try.underlying59 h with ⟨hcs, _⟩ | ⟨a, len, cap, m, n', D, Pl, hcs, _⟩
    · exact ⟨_, hcs⟩
    · exact ⟨_, hcs⟩
  obtain ⟨a, L, cap, rfl, hl, hL, _⟩ := list_field Try.underlying59 Try.cells56 (by decide) vlc length_vlc (fun _ => True) (fun n cs y h => by obtain ⟨x, e⟩ := value_cells h; exact ⟨x, e, trivial⟩) h
  exact ⟨⟨a, cap, L⟩, rfl, hL, hl⟩
theorem raw_field {n : Nat} {v : Value} {y : DataW H × List MemPlace} (h : DataW.trod enc Try.prog w 0 (fun _ => true) held n 23 [v] = some y) : ∃ (a : Option Addr) (V : List Rr) (cap : Nat), v = .slice a V.length cap ∧ V.length ≤ 9223372036854775807 ∧ Raw w a V := by
  obtain ⟨a, L, cap, rfl, hl, hL, hp⟩ := list_field Try.underlying23 Try.cells59 (by decide) rrc (fun _ => rfl) (fun r => Ls 3 vlc w r.a r.V ∧ r.V.length ≤ 9223372036854775807) (fun n cs y h => row_cells h) h
  exact ⟨a, L, cap, rfl, hl, hL, hp⟩
theorem raw_arg {v : Value} {d : DataW H} {p : List MemPlace} (hv : Value.okWide Try.prog w .any base 23 v) (h : DataW.Trod enc Try.prog w 0 (fun _ => true) held 23 v d p) : ∃ (a : Option Addr) (V : List Rr) (cap : Nat), v = .slice a V.length cap ∧ V.length ≤ 9223372036854775807 ∧ Raw w a V := by
  obtain ⟨a0, len0, cap0, rfl⟩ := okWide_slice Try.underlying23 hv
  obtain ⟨fuel, hf⟩ := h
  exact raw_field (show DataW.trod enc Try.prog w 0 (fun _ => true) held fuel 23 [.slice a0 len0 cap0] = some (d, p) from by rw [← hf]; simp [Value.cells])
theorem changes_arg {v : Value} {d : DataW H} {p : List MemPlace} (hv : Value.okWide Try.prog w .any base 22 v) (h : DataW.Trod enc Try.prog w 0 (fun _ => true) held 22 v d p) : ∃ (a : Option Addr) (L : List Ch) (cap : Nat), v = .slice a L.length cap ∧ L.length ≤ 9223372036854775807 ∧ Ls 8 chc w a L := by
  obtain ⟨a0, len0, cap0, rfl⟩ := okWide_slice Try.underlying22 hv
  obtain ⟨fuel, hf⟩ := h
  obtain ⟨a, L, cap, e, hl, hL, _⟩ := list_field Try.underlying22 Try.cells76 (by decide) chc length_chc (fun _ => True) (fun n cs y h => by obtain ⟨x, e⟩ := change_cells h; exact ⟨x, e, trivial⟩) (show DataW.trod enc Try.prog w 0 (fun _ => true) held fuel 22 [.slice a0 len0 cap0] = some _ from by rw [← hf]; simp [Value.cells])
  exact ⟨a, L, cap, e, hl, hL⟩
theorem u32_bounds {x : Int} (h : (Lit.int .u32 x).wf = true) : 0 ≤ x ∧ x < 4294967296 := by
  simp only [Lit.wf, Bool.and_eq_true, decide_eq_true_eq] at h
  have e1 : IntKind.u32.min = 0 := rfl
  have e2 : IntKind.u32.max = 4294967295 := rfl
  omega
theorem u8_bounds {x : Int} (h : (Lit.int .u8 x).wf = true) : 0 ≤ x ∧ x < 256 := by
  simp only [Lit.wf, Bool.and_eq_true, decide_eq_true_eq] at h
  have e1 : IntKind.u8.min = 0 := rfl
  have e2 : IntKind.u8.max = 255 := rfl
  omega
theorem edit_cells {n : Nat} {cs : List Value} {y : DataW H × List MemPlace} (h : DataW.trod enc Try.prog w 0 (fun _ => true) held n 26 cs = some y) : ∃ (go ch : Int) (b : Option Addr) (V : List Rr) (d sk : Nat), cs = [.int .u32 go, .int .u32 ch, .slice b V.length d, .int .u8 sk] ∧ (0 ≤ go ∧ go < 4294967296) ∧ (0 ≤ ch ∧ ch < 4294967296) ∧ sk < 256 ∧ V.length ≤ 9223372036854775807 ∧ Raw w b V := by
  obtain ⟨xs, m, _, _, hl, hsz, hf⟩ := DataW.trod_struct Try.underlying26 h
  rw [Try.cells26] at hl
  obtain ⟨c0, l0, rfl, hl0⟩ := lS hl
  obtain ⟨c1, l1, rfl, hl1⟩ := lS hl0
  obtain ⟨c2, l2, rfl, hl2⟩ := lS hl1
  obtain ⟨c3, l3, rfl, hl3⟩ := lS hl2
  obtain rfl := List.length_eq_zero_iff.1 hl3
  have hsz : xs.length = 4 := hsz
  obtain ⟨go, rfl, w0⟩ := int_at Try.underlying24 (show DataW.trod enc Try.prog w 0 (fun _ => true) held m 24 [c0] = some xs[0] from by have q : DataW.trod enc Try.prog w 0 (fun _ => true) held m 24 (List.take (Try.prog.cellsOf 24) (List.drop 0 _)) = xs[0]? := hf 0 _ rfl; rw [Try.cells24] at q; exact q.trans (List.getElem?_eq_getElem (by omega)))
  obtain ⟨ch, rfl, w1⟩ := int_at Try.underlying24 (show DataW.trod enc Try.prog w 0 (fun _ => true) held m 24 [c1] = some xs[1] from by have q : DataW.trod enc Try.prog w 0 (fun _ => true) held m 24 (List.take (Try.prog.cellsOf 24) (List.drop 1 _)) = xs[1]? := hf 1 _ rfl; rw [Try.cells24] at q; exact q.trans (List.getElem?_eq_getElem (by omega)))
  obtain ⟨b, V, d, rfl, hV, hR⟩ := raw_field (show DataW.trod enc Try.prog w 0 (fun _ => true) held m 23 [c2] = some xs[2] from by have q : DataW.trod enc Try.prog w 0 (fun _ => true) held m 23 (List.take (Try.prog.cellsOf 23) (List.drop 2 _)) = xs[2]? := hf 2 _ rfl; rw [Try.cells23] at q; exact q.trans (List.getElem?_eq_getElem (by omega)))
  obtain ⟨sk, rfl, w3⟩ := int_at Try.underlying5 (show DataW.trod enc Try.prog w 0 (fun _ => true) held m 5 [c3] = some xs[3] from by have q : DataW.trod enc Try.prog w 0 (fun _ => true) held m 5 (List.take (Try.prog.cellsOf 5) (List.drop 3 _)) = xs[3]? := hf 3 _ rfl; rw [Try.cells5] at q; exact q.trans (List.getElem?_eq_getElem (by omega)))
  have := u8_bounds w3
  obtain ⟨k, rfl⟩ : ∃ k : Nat, sk = (k : Int) := ⟨sk.toNat, by omega⟩
  exact ⟨go, ch, b, V, d, k, rfl, u32_bounds w0, u32_bounds w1, by omega, hV, hR⟩
theorem edits_arg {v : Value} {d : DataW H} {p : List MemPlace} (hv : Value.okWide Try.prog w .any base 27 v) (h : DataW.Trod enc Try.prog w 0 (fun _ => true) held 27 v d p) : ∃ (go1 ch1 : Int) (b1 : Option Addr) (V1 : List Rr) (d1 k1 : Nat) (go2 ch2 : Int) (b2 : Option Addr) (V2 : List Rr) (d2 k2 : Nat), v = .agg #[.int .u32 go1, .int .u32 ch1, .slice b1 V1.length d1, .int .u8 k1, .int .u32 go2, .int .u32 ch2, .slice b2 V2.length d2, .int .u8 k2] ∧ (0 ≤ go1 ∧ go1 < 4294967296) ∧ (0 ≤ ch1 ∧ ch1 < 4294967296) ∧ k1 < 256 ∧ V1.length ≤ 9223372036854775807 ∧ Raw w b1 V1 ∧ (0 ≤ go2 ∧ go2 < 4294967296) ∧ (0 ≤ ch2 ∧ ch2 < 4294967296) ∧ k2 < 256 ∧ V2.length ≤ 9223372036854775807 ∧ Raw w b2 V2 := by
  obtain ⟨cs, rfl, hsz⟩ := okWide_array Try.underlying27 hv
  rw [Try.cells27] at hsz
  obtain ⟨fuel, hf⟩ := h
  obtain ⟨xs, m1, _, _, hlen, hn, hel⟩ := DataW.trod_array Try.underlying27 (show DataW.trod enc Try.prog w 0 (fun _ => true) held fuel 27 cs.toList = some (d, p) from by rw [← hf]; simp [Value.cells])
  rw [Try.cells26] at hel
  obtain ⟨c0, c1, c2, c3, c4, c5, c6, c7, hcs⟩ : ∃ c0 c1 c2 c3 c4 c5 c6 c7, cs = #[c0, c1, c2, c3, c4, c5, c6, c7] := by
    obtain ⟨l⟩ := cs
    replace hsz : l.length = 8 := hsz
    obtain ⟨c0, l0, rfl, hsz0⟩ := lS hsz
    obtain ⟨c1, l1, rfl, hsz1⟩ := lS hsz0
    obtain ⟨c2, l2, rfl, hsz2⟩ := lS hsz1
    obtain ⟨c3, l3, rfl, hsz3⟩ := lS hsz2
    obtain ⟨c4, l4, rfl, hsz4⟩ := lS hsz3
    obtain ⟨c5, l5, rfl, hsz5⟩ := lS hsz4
    obtain ⟨c6, l6, rfl, hsz6⟩ := lS hsz5
    obtain ⟨c7, l7, rfl, hsz7⟩ := lS hsz6
    obtain rfl := List.length_eq_zero_iff.1 hsz7
    exact ⟨c0, c1, c2, c3, c4, c5, c6, c7, rfl⟩
  subst hcs
  obtain ⟨go1, ch1, b1, V1, d1, k1, e1, p1, p2, p3, p4, p5⟩ := edit_cells (show DataW.trod enc Try.prog w 0 (fun _ => true) held m1 26 [c0, c1, c2, c3] = some xs[0] from (hel 0 (by omega)).trans (List.getElem?_eq_getElem (by omega)))
  obtain ⟨go2, ch2, b2, V2, d2, k2, e2, r1, r2, r3, r4, r5⟩ := edit_cells (show DataW.trod enc Try.prog w 0 (fun _ => true) held m1 26 [c4, c5, c6, c7] = some xs[1] from (hel 1 (by omega)).trans (List.getElem?_eq_getElem (by omega)))
  simp only [List.cons.injEq, and_true] at e1 e2
  obtain ⟨rfl, rfl, rfl, rfl⟩ := e1
  obtain ⟨rfl, rfl, rfl, rfl⟩ := e2
  exact ⟨go1, ch1, b1, V1, d1, k1, go2, ch2, b2, V2, d2, k2, rfl, p1, p2, p3, p4, p5, r1, r2, r3, r4, r5⟩
end
end Go.Proofs.Ytkonoojmhjinpaa

set_option linter.all false
namespace Go.Proofs.Ytkonoojmhjinpaa.topMergesApplyBothFeeds
open Go.ChangeShapes Go.WideShapes Go.ChangeAt Go.WideMaps Go.WideElems Go.RowKit Go.Fen

set_option maxRecDepth 100000 in
theorem lifted (os : Os) (started : os.Started) (H : Type) (enc : TypeId × Value → H) :
    ReturnsInHanded {} Try.checked os 3 .any (Rows.topMergesApplyBothFeedsSpec.pre6 enc Try.prog Try.f3 Rows.topMergesApplyBothFeedsRow.domain false) (Rows.topMergesApplyBothFeedsSpec.post enc Try.prog Try.f3 false true false false) := by
  refine returnsInHanded_of_change (C := Try.checked) own started (by kernel_rfl) Try.func3
    (ChangeSpec.witness6 (enc := enc) (C := Try.checked) false ⟨#[], #[.slice none 0 0, .slice none 0 0, .agg #[.int .u32 0, .int .u32 0, .slice none 0 0, .int .u8 0, .int .u32 0, .int .u32 0, .slice none 0 0, .int .u8 0]], []⟩ 8 (by kernel_rfl) (by kernel_rfl) (by kernel_rfl) (by kernel_rfl)) ?_
  intro W base args ds gs before hval0 hW hcnd _
  have hval : ∀ (j : Nat) t v, Try.f3.params[j]? = some t → args[j]? = some v → Value.okWide Try.prog W .any base t v := hval0
  have hW' := hW
  obtain ⟨p, q, hA0, hV, rfl, hfz, hnd⟩ := hW
  have hA : DataW.TrodAll enc Try.prog W 0 (fun _ => true) true Try.f3.params.toList args.toList ds p := hA0
  rw [Try.params3] at hA hval
  obtain ⟨v0, vs0, d0, ds0, p0, q0, hargs, rfl, rfl, k0, r0'⟩ := trodAll_cons hA
  obtain ⟨v1, vs1, d1, ds1, p1, q1, rfl, rfl, rfl, k1, r1'⟩ := trodAll_cons r0'
  obtain ⟨v2, vs2, d2, ds2, p2, q2, rfl, rfl, rfl, k2, r2'⟩ := trodAll_cons r1'
  obtain ⟨rfl, rfl, rfl⟩ := trodAll_nil r2'
  obtain rfl : args = #[v0, v1, v2] := by cases args; simp_all
  obtain ⟨rfl, rfl⟩ := trodVars_none hV
  have lt0 : ∀ x ∈ p0, x.block < W.heap.size := by obtain ⟨m, hm⟩ := k0; exact DataW.trod_lt m _ _ _ hm
  have lt1 : ∀ x ∈ p1, x.block < W.heap.size := by obtain ⟨m, hm⟩ := k1; exact DataW.trod_lt m _ _ _ hm
  have lt2 : ∀ x ∈ p2, x.block < W.heap.size := by obtain ⟨m, hm⟩ := k2; exact DataW.trod_lt m _ _ _ hm
  obtain ⟨a0, L0, c0, rfl, hl0, B0⟩ := changes_arg (hval 0 22 v0 rfl rfl) k0
  obtain ⟨a1, V1, c1, rfl, hl1, B1⟩ := raw_arg (hval 1 23 v1 rfl rfl) k1
  obtain ⟨go1, ch1, ba1, Va1, d1', k1', go2, ch2, ba2, Va2, d2', k2', rfl, hg1, hc1, hs1, hm1, C1, hg2, hc2, hs2, hm2, C2⟩ := edits_arg (hval 2 27 v2 rfl rfl) k2
  clear hA0 hval0
  simp only [List.append_nil] at hW'
  refine (top_walk a0 L0 L0.length c0 a1 V1 V1.length c1 go1 ch1 ba1 Va1 Va1.length d1' k1' go2 ch2 ba2 Va2 Va2.length d2' k2' W rfl hl0 B0 rfl hl1 B1 rfl hm1 C1 rfl hm2 C2 hg1 hc1 hs1 hg2 hc2 hs2).mono fun e W' ⟨he, bel⟩ => ?_
  subst he
  exact ⟨_, rfl, _, _, _, [], _, [], hW', trodAll_mk1 (shut_bool Try.underlying4 _), (trodAll_cons_mk (Below.trod laidOut (by kernel_rfl) (of_decide_eq_true (by kernel_rfl)) k0 bel lt0) (trodAll_cons_mk (Below.trod laidOut (by kernel_rfl) (of_decide_eq_true (by kernel_rfl)) k1 bel lt1) (trodAll_cons_mk (Below.trod laidOut (by kernel_rfl) (of_decide_eq_true (by kernel_rfl)) k2 bel lt2) trodAll_mk0))), rfl, bel.frame _, fun h => by cases h⟩

theorem over : Rows.topMergesApplyBothFeedsRow.holds Try.pinned (OpenSpec.ofChange Rows.topMergesApplyBothFeedsSpec) :=
  OpenClaim.holds_of_wide 3 Try.f3 rfl rfl rfl rfl rfl rfl rfl ⟨rfl, rfl, rfl, rfl, rfl⟩ rfl rfl rfl rfl rfl (by kernel_rfl) Try.func3 (by kernel_rfl)
    (of_decide_eq_true (by kernel_rfl)) (by unfold Func.isWrapper; first | (rw [if_pos (by decide +kernel)]; kernel_rfl) | (rw [if_neg (by decide +kernel)]; exact ⟨rfl, rfl⟩))
    (fun os started H enc _ => lifted os started H enc)

/-- THE STATEMENT -/
theorem proved : Rows.TopMergesApplyBothFeedsSaid :=
  over
#print axioms proved
end Go.Proofs.Ytkonoojmhjinpaa.topMergesApplyBothFeeds
