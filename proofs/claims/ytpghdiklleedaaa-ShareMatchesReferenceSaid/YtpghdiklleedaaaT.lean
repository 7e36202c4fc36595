/- From the rows' premises to what the walks ask: slices of bytes, deals, lists of shares, small arrays. -/
import Derived.Test.YtpghdiklleedaaaM
import Derived.OpenShut
import Derived.ShutString
import Derived.ChangeOld
import Derived.Lib.SmallJoins
import Derived.Deep.Slices
set_option linter.all false
namespace Go.Proofs.Ytpghdiklleedaaa
open Go.ChangeShapes Go.WideShapes Go.ChangeAt Go.WideMaps Go.WideElems Go.RowKit Go.Fen Go.Deep Go.Joins
set_option maxHeartbeats 400000

theorem own : ownKnob Try.prog.godebug = none := by kernel_rfl
theorem laidOut : laidOutB Try.prog = true := by kernel_rfl
theorem Try.cells5 : Try.prog.cellsOf 5 = 1 := by kernel_rfl
theorem Try.cells3 : Try.prog.cellsOf 3 = 1 := by kernel_rfl
theorem Try.cells29 : Try.prog.cellsOf 29 = 4 := by kernel_rfl
theorem Try.cells33 : Try.prog.cellsOf 33 = 2 := by kernel_rfl
theorem Try.cells30 : Try.prog.cellsOf 30 = 2 := by kernel_rfl
theorem Try.cells51 : Try.prog.cellsOf 51 = 3 := by kernel_rfl

section
variable {H : Type} {enc : TypeId × Value → H} {w : World} {base : Nat} {sp : Nat → Bool} {held : Bool}

theorem addr_add (b off i : Nat) : (⟨b, off, none⟩ : Addr).add i = ⟨b, off + i, none⟩ := by
  unfold Addr.add; split
  · subst_vars; rfl
  · rfl
/-- a row of bytes that came in -/
theorem bytes_cells {a : Addr} {len cap : Nat} {zs : List Int} (hl : len ≤ cap) (hz : len ≤ zs.length) (hc : ∀ i, i < zs.length → w.cell? (a.add i) = some (.int .u8 (zs.getD i 0))) (hw : ∀ n ∈ zs, (Lit.int .u8 n).wf = true) :
    ∃ l : List (BitVec 8), l.length = len ∧ Bs w (some a) l := by
  refine ⟨(zs.take len).map (BitVec.ofInt 8), by simp; omega, ?_⟩
  by_cases h0 : len = 0
  · exact .inl (by simp [h0])
  · obtain ⟨b, off, spot⟩ := a
    have hc0 := hc 0 (by omega)
    have hspot : spot = none := by simpa [Addr.add] using World.cell?_spot hc0
    subst hspot
    refine .inr ⟨b, off, rfl, fun i hi => ?_⟩
    have hi' : i < len := by simp at hi; omega
    have h1 := hc i (by omega)
    rw [addr_add] at h1
    rw [h1]
    have hlt : i < zs.length := by omega
    have hmem : zs.getD i 0 ∈ zs := by
      rw [List.getD, List.getElem?_eq_getElem hlt]
      exact List.getElem_mem _
    have hwf := bounds_u8 (hw _ hmem)
    have e : ((zs.take len).map (BitVec.ofInt 8)).getD i 0#8 = BitVec.ofInt 8 (zs.getD i 0) := by
      simp [List.getD, List.getElem?_take, hi', hlt]
    rw [e, BitVec.toNat_ofInt]
    have e2 : (((zs.getD i 0) % ((2 ^ 8 : Nat) : Int)).toNat : Int) = zs.getD i 0 := by omega
    rw [e2]
theorem bytes_field {n : Nat} {v : Value} {y : DataW H × List MemPlace} (h : DataW.trod enc Try.prog w 0 (fun _ => true) held n 27 [v] = some y) :
    ∃ (a : Option Addr) (l : List (BitVec 8)) (c : Nat), v = .slice a l.length c ∧ l.length ≤ c ∧ l.length ≤ maxLen ∧ Bs w a l := by
  rcases open_ints Try.underlying27 Try.underlying5 Try.cells5 h with ⟨hcs, _⟩ | ⟨x, l, c, zs, hcs, _, hl, hm, hz, _, hcell, hwz⟩
  · simp at hcs
    exact ⟨none, [], 0, hcs, by simp, by simp, .inl rfl⟩
  · simp at hcs
    obtain ⟨q, hq, hB⟩ := bytes_cells (w := w) hl (by rw [hz]; simpa using hl) hcell hwz
    exact ⟨some x, q, c, by rw [hcs, hq], by omega, by omega, hB⟩
theorem bytes_arg {v : Value} {d : DataW H} {p : List MemPlace} (hv : Value.okWide Try.prog w .any base 27 v) (h : DataW.Trod enc Try.prog w 0 (fun _ => true) held 27 v d p) :
    ∃ (a : Option Addr) (l : List (BitVec 8)) (c : Nat), v = .slice a l.length c ∧ l.length ≤ c ∧ l.length ≤ maxLen ∧ Bs w a l := by
  obtain ⟨a0, len0, cap0, rfl⟩ := okWide_slice Try.underlying27 hv
  obtain ⟨fuel, hf⟩ := h
  exact bytes_field (by simpa [Value.cells] using hf)
theorem byte_field {n : Nat} {v : Value} {y : DataW H × List MemPlace} (h : DataW.trod enc Try.prog w 0 (fun _ => true) held n 5 [v] = some y) : ∃ x : BitVec 8, v = .int .u8 x.toNat := by
  obtain ⟨n0, f0, g0, w0⟩ := DataW.trod_int Try.underlying5 h
  have hb := bounds_u8 w0
  refine ⟨BitVec.ofNat 8 n0.toNat, ?_⟩
  simp at f0
  rw [f0, BitVec.toNat_ofNat, Nat.mod_eq_of_lt (by omega)]
  congr 1
  omega
/-- a deal -/
theorem deal_arg {v : Value} {d : DataW H} {p : List MemPlace} (hv : Value.okWide Try.prog w .any base 29 v) (h : DataW.Trod enc Try.prog w 0 (fun _ => true) held 29 v d p) :
    ∃ (a b : Option Addr) (s r : List (BitVec 8)) (c e : Nat) (x y : BitVec 8), v = .agg #[.slice a s.length c, .slice b r.length e, .int .u8 x.toNat, .int .u8 y.toNat] ∧ Bs w a s ∧ Bs w b r ∧ s.length ≤ maxLen ∧ r.length ≤ maxLen := by
  obtain ⟨v0, v1, v2, v3, y0, y1, y2, y3, n, rfl, _, _, h0, h1, h2, h3⟩ := open_agg4 Try.underlying29 (by kernel_rfl) Try.cells29 hv h
  obtain ⟨a, s, c, rfl, _, hs, B1⟩ := bytes_field h0
  obtain ⟨b, r, e, rfl, _, hr, B2⟩ := bytes_field h1
  obtain ⟨x, rfl⟩ := byte_field h2
  obtain ⟨y, rfl⟩ := byte_field h3
  exact ⟨a, b, s, r, c, e, x, y, rfl, B1, B2, hs, hr⟩
theorem okWide_array {t e : TypeId} {n : Nat} {r : Reach} {v : Value} (ht : Try.prog.underlying t = some (.array n e)) (h : Value.okWide Try.prog w r base t v) : ∃ cs, v = .agg cs ∧ cs.size = Try.prog.cellsOf t := by
  simp only [Value.okWide, ht] at h
  obtain ⟨cs, h1, h2, _⟩ := h
  exact ⟨cs, h1, h2⟩
/-- two numbers -/
theorem pair_arg {v : Value} {d : DataW H} {p : List MemPlace} (hv : Value.okWide Try.prog w .any base 30 v) (h : DataW.Trod enc Try.prog w 0 (fun _ => true) held 30 v d p) : ∃ x y : Int, v = .agg #[.int .i64 x, .int .i64 y] ∧ (Lit.int .i64 x).wf = true ∧ (Lit.int .i64 y).wf = true := by
  obtain ⟨cs, rfl, hsz⟩ := okWide_array Try.underlying30 hv
  obtain ⟨c0, c1, rfl⟩ := array2 (hsz.trans Try.cells30)
  obtain ⟨fuel, hf⟩ := h
  obtain ⟨xs, m1, _, _, hlen, hn, hel⟩ := DataW.trod_array Try.underlying30 (by simpa [Value.cells] using hf)
  rw [Try.cells3] at hel
  obtain ⟨n0, f0, _, w0⟩ := DataW.trod_int Try.underlying3 (show DataW.trod enc Try.prog w 0 (fun _ => true) held m1 3 [c0] = some xs[0] from (hel 0 (by omega)).trans (List.getElem?_eq_getElem (by omega)))
  obtain ⟨n1, f1, _, w1⟩ := DataW.trod_int Try.underlying3 (show DataW.trod enc Try.prog w 0 (fun _ => true) held m1 3 [c1] = some xs[1] from (hel 1 (by omega)).trans (List.getElem?_eq_getElem (by omega)))
  simp at f0 f1
  exact ⟨n0, n1, by rw [f0, f1], w0, w1⟩
/-- three bytes -/
theorem three_arg {v : Value} {d : DataW H} {p : List MemPlace} (hv : Value.okWide Try.prog w .any base 51 v) (h : DataW.Trod enc Try.prog w 0 (fun _ => true) held 51 v d p) : ∃ x y z : BitVec 8, v = .agg #[.int .u8 x.toNat, .int .u8 y.toNat, .int .u8 z.toNat] := by
  obtain ⟨cs, rfl, hsz⟩ := okWide_array Try.underlying51 hv
  obtain ⟨c0, c1, c2, rfl⟩ := array3 (hsz.trans Try.cells51)
  obtain ⟨fuel, hf⟩ := h
  obtain ⟨xs, m1, _, _, hlen, hn, hel⟩ := DataW.trod_array Try.underlying51 (by simpa [Value.cells] using hf)
  rw [Try.cells5] at hel
  obtain ⟨x, rfl⟩ := byte_field (show DataW.trod enc Try.prog w 0 (fun _ => true) held m1 5 [c0] = some xs[0] from (hel 0 (by omega)).trans (List.getElem?_eq_getElem (by omega)))
  obtain ⟨y, rfl⟩ := byte_field (show DataW.trod enc Try.prog w 0 (fun _ => true) held m1 5 [c1] = some xs[1] from (hel 1 (by omega)).trans (List.getElem?_eq_getElem (by omega)))
  obtain ⟨z, rfl⟩ := byte_field (show DataW.trod enc Try.prog w 0 (fun _ => true) held m1 5 [c2] = some xs[2] from (hel 2 (by omega)).trans (List.getElem?_eq_getElem (by omega)))
  exact ⟨x, y, z, rfl⟩
end
end Go.Proofs.Ytpghdiklleedaaa
