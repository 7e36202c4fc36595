/- A list of shares that came in. -/
import Derived.Test.YtpghdiklleedaaaT
set_option linter.all false
namespace Go.Proofs.Ytpghdiklleedaaa
open Go.ChangeShapes Go.WideShapes Go.ChangeAt Go.WideMaps Go.WideElems Go.RowKit Go.Fen Go.Deep Go.Joins
set_option maxHeartbeats 400000
section
variable {H : Type} {enc : TypeId × Value → H} {w : World} {base : Nat} {sp : Nat → Bool} {held : Bool}

theorem share_cells {n : Nat} {cs : List Value} {y : DataW H × List MemPlace} (h : DataW.trod enc Try.prog w 0 (fun _ => true) held n 33 cs = some y) :
    ∃ t : Shr, cs = [.int .u8 t.x.toNat, t.v] ∧ SV w t.v t.b ∧ t.b.length ≤ maxLen := by
  obtain ⟨y0, y1, n, _, hl, h0, h1⟩ := Go.ChangeShapes.trod_struct2 Try.underlying33 h
  rw [Try.cells33] at hl
  obtain ⟨c0, c1, rfl⟩ : ∃ c0 c1, cs = [c0, c1] := by
    match cs, hl with
    | [c0, c1], _ => exact ⟨c0, c1, rfl⟩
  have k27 : Try.prog.cellsOf 27 = 1 := by kernel_rfl
  obtain ⟨x, rfl⟩ := byte_field (show DataW.trod enc Try.prog w 0 (fun _ => true) held n 5 [c0] = some y0 by simpa [Try.cells5] using h0)
  obtain ⟨a, l, c, rfl, hc, hm, hB⟩ := bytes_field (show DataW.trod enc Try.prog w 0 (fun _ => true) held n 27 [c1] = some y1 by simpa [k27] using h1)
  exact ⟨Shr.mk x (.slice a l.length c) l, rfl, ⟨a, c, rfl, hc, hB⟩, hm⟩

theorem shares_arg {v : Value} {d : DataW H} {p : List MemPlace} (hv : Value.okWide Try.prog w .any base 31 v) (h : DataW.Trod enc Try.prog w 0 (fun _ => true) held 31 v d p) :
    ∃ (a : Option Addr) (L : List Shr) (c : Nat), v = .slice a L.length c ∧ L.length ≤ c ∧ L.length ≤ maxLen ∧ Shs w a L ∧ ∀ i, i < L.length → (L.getD i zs).b.length ≤ maxLen := by
  obtain ⟨a0, len0, cap0, rfl⟩ := okWide_slice Try.underlying31 hv
  obtain ⟨fuel, hf⟩ := h
  rcases open_slice Try.underlying31 (by simpa [Value.cells] using hf) with ⟨hcs, _⟩ | ⟨a, len, cap, m, n, D, Pl, hcs, _, hl, hm, hmm, _, hx⟩
  · simp at hcs
    obtain ⟨rfl, rfl, rfl⟩ := hcs
    exact ⟨none, [], 0, rfl, by simp, by simp, ⟨.inl rfl, fun i hi => by simp at hi⟩, fun i hi => by simp at hi⟩
  · simp at hcs
    obtain ⟨rfl, rfl, rfl⟩ := hcs
    have hlm : len0 ≤ m := by simp at hmm; omega
    haveI : Inhabited Shr := ⟨zs⟩
    obtain ⟨T, hT⟩ := choose_lt (α := Shr) (n := len0) (p := fun i t => w.cell? ((a.add (i * 2)).add 0) = some (.int .u8 t.x.toNat) ∧ w.cell? ((a.add (i * 2)).add 1) = some t.v ∧ SV w t.v t.b ∧ t.b.length ≤ maxLen) (fun i hi => by
      obtain ⟨cs', h1, h2⟩ := hx i (by omega)
      rw [Try.cells33] at h1
      obtain ⟨_, _, hc⟩ := World.cells?_some h1
      obtain ⟨t, rfl, hs, hb⟩ := share_cells h2
      exact ⟨t, hc 0 (by omega), hc 1 (by omega), hs, hb⟩)
    have hg : ∀ i, i < len0 → ((List.range len0).map T).getD i zs = T i := fun i hi => by simp [List.getD, hi]
    refine ⟨some a, (List.range len0).map T, cap0, by simp, by simpa using hl, by simp; omega, ⟨?_, fun i hi => ?_⟩, fun i hi => ?_⟩
    · by_cases h0 : len0 = 0
      · exact .inl (by simp [h0])
      · obtain ⟨b, off, spot⟩ := a
        have hc0 := (hT 0 (by omega)).1
        have hspot : spot = none := by simpa [Addr.add] using World.cell?_spot hc0
        subst hspot
        refine .inr ⟨b, off, rfl, fun i hi => ?_⟩
        have hi' : i < len0 := by simpa using hi
        rw [hg i hi']
        have := hT i hi'
        rw [addr_add, addr_add, addr_add] at this
        exact ⟨this.1, this.2.1⟩
    · have hi' : i < len0 := by simpa using hi
      rw [hg i hi']; exact (hT i hi').2.2.1
    · have hi' : i < len0 := by simpa using hi
      rw [hg i hi']; exact (hT i hi').2.2.2
end
end Go.Proofs.Ytpghdiklleedaaa
