/- From the rows' premises to what the walks ask: the table, the slices of bytes. -/
import Derived.Test.YtnooklfhpjfbmaaDoorE
import Derived.OpenShut
import Derived.ShutString
import Derived.ChangeOld
import Derived.LaidMore
import Derived.Stop.Joined
set_option linter.all false
namespace Go.Proofs.YtnooklfhpjfbmaaDoor
open Go.ChangeShapes Go.WideShapes Go.ChangeAt Go.WideMaps Go.WideElems Go.RowKit Go.Fen
set_option linter.unusedVariables false

def laidQ : List (String × DataW Unit) := [("fenland/chacha.rounds", Rows.laid_fenland_chacha_rounds)]
theorem own : ownKnob Tryd.prog.godebug = none := by kernel_rfl
theorem laidOut : laidOutB Tryd.prog = true := by kernel_rfl
theorem gRounds : Tryd.prog.globalNamed "fenland/chacha.rounds" = some 0 := by kernel_rfl
theorem tRounds : (Tryd.prog.globals[0]?).map (·.type) = some 48 := by kernel_rfl
theorem Tryd.cells48 : Tryd.prog.cellsOf 48 = 32 := by kernel_rfl
theorem Tryd.cells44 : Tryd.prog.cellsOf 44 = 4 := by kernel_rfl
theorem Tryd.cells3 : Tryd.prog.cellsOf 3 = 1 := by kernel_rfl

theorem door_met (os : Os) (args : Array Value) : laidMetH Tryd.prog laidQ ((World.doorLaid Tryd.prog 400 os).forCall (fun _ _ => 0) ⟨#[], args, []⟩).memory :=
  laidMetH_of_parts3 (fuel := 8) (laidMet_of_run' 8 (by kernel_rfl) (by kernel_rfl)) (by kernel_rfl) (by kernel_rfl)

section
variable {H : Type} {enc : TypeId × Value → H} {w : World} {base : Nat} {sp : Nat → Bool} {held : Bool}

theorem row4 {m : Nat} {l : List Value} {x : DataW H × List MemPlace} {a b c d : Int} (h : DataW.trod enc Tryd.prog w base sp held m 44 l = some x)
    (hx : x.1 = .agg [.lit (.int .i64 a), .lit (.int .i64 b), .lit (.int .i64 c), .lit (.int .i64 d)]) : l = [.int .i64 a, .int .i64 b, .int .i64 c, .int .i64 d] := by
  obtain ⟨xs, m1, rfl, rfl, hlen, hn, hel⟩ := DataW.trod_array Tryd.underlying44 h
  rw [Tryd.cells44] at hlen
  rw [Tryd.cells3] at hel
  match l, hlen, xs, hn with
  | [v0, v1, v2, v3], _, [x0, x1, x2, x3], _ =>
    simp only [List.map_cons, List.map_nil, DataW.agg.injEq, List.cons.injEq, and_true] at hx
    obtain ⟨e0, e1, e2, e3⟩ := hx
    obtain ⟨n0, f0, g0, _⟩ := DataW.trod_int Tryd.underlying3 (show DataW.trod enc Tryd.prog w base sp held m1 3 [v0] = some x0 from hel 0 (by decide))
    obtain ⟨n1, f1, g1, _⟩ := DataW.trod_int Tryd.underlying3 (show DataW.trod enc Tryd.prog w base sp held m1 3 [v1] = some x1 from hel 1 (by decide))
    obtain ⟨n2, f2, g2, _⟩ := DataW.trod_int Tryd.underlying3 (show DataW.trod enc Tryd.prog w base sp held m1 3 [v2] = some x2 from hel 2 (by decide))
    obtain ⟨n3, f3, g3, _⟩ := DataW.trod_int Tryd.underlying3 (show DataW.trod enc Tryd.prog w base sp held m1 3 [v3] = some x3 from hel 3 (by decide))
    rw [g0] at e0; rw [g1] at e1; rw [g2] at e2; rw [g3] at e3
    simp only [DataW.lit.injEq, Lit.int.injEq, true_and] at e0 e1 e2 e3
    simp only [List.cons.injEq, and_true] at f0 f1 f2 f3
    rw [f0, f1, f2, f3, e0, e1, e2, e3]
end

theorem tab_of_laid {W : World} (h : laidMetH Tryd.prog laidQ W) : Tab W := by
  rw [MakeChecks.laidMetH_plain _ _ _ (by kernel_rfl)] at h
  obtain ⟨ps, ⟨g0, t0, cs0, f0, p0, q0, hg0, ht0, hv0, hd0, _⟩, _⟩ := h
  obtain rfl := Option.some.inj (gRounds.symm.trans hg0)
  obtain rfl := Option.some.inj (tRounds.symm.trans ht0)
  obtain ⟨xs, m1, rfl, hx, hlen, hn, hel⟩ := DataW.trod_array Tryd.underlying48 hd0
  rw [Tryd.cells48] at hlen
  rw [Tryd.cells44] at hel
  have hcs : cs0 = icells qtab := by
    obtain ⟨l⟩ := cs0
    have hx1 := (Prod.mk.inj hx).1
    match xs, hn with
    | [x0, x1, x2, x3, x4, x5, x6, x7], _ =>
      simp only [Rows.laid_fenland_chacha_rounds, List.map_cons, List.map_nil, DataW.agg.injEq, List.cons.injEq, and_true] at hx1
      obtain ⟨e0, e1, e2, e3, e4, e5, e6, e7⟩ := hx1
      have h0 := row4 (hel 0 (by decide)) e0.symm
      have h1 := row4 (hel 1 (by decide)) e1.symm
      have h2 := row4 (hel 2 (by decide)) e2.symm
      have h3 := row4 (hel 3 (by decide)) e3.symm
      have h4 := row4 (hel 4 (by decide)) e4.symm
      have h5 := row4 (hel 5 (by decide)) e5.symm
      have h6 := row4 (hel 6 (by decide)) e6.symm
      have h7 := row4 (hel 7 (by decide)) e7.symm
      have hl : l.length = 32 := hlen
      have hsplit : ∀ i, i < 32 → l[i]? = ((l.drop ((i / 4) * 4)).take 4)[i % 4]? := by
        intro i hi
        rw [List.getElem?_take, if_pos (Nat.mod_lt _ (by decide)), List.getElem?_drop]
        congr 1
        omega
      have : l = (icells qtab).toList := by
        apply List.ext_getElem?
        intro i
        by_cases hi : i < 32
        · rw [hsplit i hi]
          have hc : i / 4 = 0 ∨ i / 4 = 1 ∨ i / 4 = 2 ∨ i / 4 = 3 ∨ i / 4 = 4 ∨ i / 4 = 5 ∨ i / 4 = 6 ∨ i / 4 = 7 := by omega
          have hr : i % 4 = 0 ∨ i % 4 = 1 ∨ i % 4 = 2 ∨ i % 4 = 3 := by omega
          rcases hc with e | e | e | e | e | e | e | e <;> rw [e] <;> first | rw [h0] | rw [h1] | rw [h2] | rw [h3] | rw [h4] | rw [h5] | rw [h6] | rw [h7]
          all_goals
            rcases hr with f | f | f | f <;> rw [f] <;> (have ei : i = i / 4 * 4 + i % 4 := by omega) <;> rw [e, f] at ei <;> rw [ei] <;> rfl
        · rw [List.getElem?_eq_none (by omega), List.getElem?_eq_none (by rw [Array.length_toList, size_icells]; show 32 ≤ i; omega)]
      rw [this]
  unfold World.var? at hv0
  rw [gRounds] at hv0
  simp only [Option.bind_some] at hv0
  cases hh : W.heap[0]? with
  | none => simp [hh] at hv0
  | some ob =>
    rw [hh] at hv0
    cases ob <;> simp at hv0
    subst hv0
    subst hcs
    exact ⟨_, _, hh⟩

/-- WHAT THE WALK IS TOLD OF A SLICE OF INTEGERS THAT CAME IN. -/
def IsRow (k : IntKind) (w : World) (a : Option Addr) (len cap : Nat) (zs : List Int) : Prop :=
  (a = none ∧ len = 0 ∧ cap = 0 ∧ zs = []) ∨
  ∃ x, a = some x ∧ len ≤ cap ∧ cap ≤ maxLen ∧ zs.length = cap ∧ (∀ i, i < zs.length → w.cell? (x.add i) = some (.int k (zs.getD i 0))) ∧ ∀ n ∈ zs, (Lit.int k n).wf = true

theorem bytes_of_row {W : World} {a : Option Addr} {len cap : Nat} {zs : List Int} (h : IsRow .u8 W a len cap zs) :
    ∃ l : List (BitVec 8), l.length = len ∧ len ≤ cap ∧ cap ≤ 9223372036854775807 ∧ Bs W a l := by
  rcases h with ⟨rfl, rfl, rfl, rfl⟩ | ⟨x, rfl, hl, hm, hz, hc, hw⟩
  · exact ⟨[], rfl, Nat.le_refl _, by decide, .inl rfl⟩
  · refine ⟨(zs.take len).map (BitVec.ofInt 8), by simp; omega, hl, by unfold maxLen at hm; omega, ?_⟩
    by_cases h0 : len = 0
    · exact .inl (by simp [h0])
    · obtain ⟨b, off, spot⟩ := x
      have hc0 := hc 0 (by omega)
      have hspot : spot = none := by simpa [Addr.add] using World.cell?_spot hc0
      subst hspot
      refine .inr ⟨b, off, rfl, fun i hi => ?_⟩
      have hi' : i < len := by simp at hi; omega
      have h1 := hc i (by omega)
      have hadd : (⟨b, off, none⟩ : Addr).add i = ⟨b, off + i, none⟩ := by
        unfold Addr.add; split
        · subst_vars; rfl
        · rfl
      rw [hadd] at h1
      rw [h1]
      have hmem : zs.getD i 0 ∈ zs := by
        have : i < zs.length := by omega
        rw [List.getD, List.getElem?_eq_getElem this]
        exact List.getElem_mem _
      have hwf := bounds_u8 (hw _ hmem)
      have e : ((zs.take len).map (BitVec.ofInt 8)).getD i 0#8 = BitVec.ofInt 8 (zs.getD i 0) := by
        have : i < zs.length := by omega
        simp [List.getD, List.getElem?_take, hi', this]
      rw [e, BitVec.toNat_ofInt]
      have e2 : (((zs.getD i 0) % ((2 ^ 8 : Nat) : Int)).toNat : Int) = zs.getD i 0 := by omega
      rw [e2]
end Go.Proofs.YtnooklfhpjfbmaaDoor
