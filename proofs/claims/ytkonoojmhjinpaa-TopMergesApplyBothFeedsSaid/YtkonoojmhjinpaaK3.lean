/- Rows, lines and tables in memory. -/
import Derived.Test.YtkonoojmhjinpaaU
set_option linter.all false
namespace Go.Proofs.Ytkonoojmhjinpaa
open Go.RowKit Go.Fen
set_option linter.unusedVariables false
set_option maxHeartbeats 4000000

/-- a row as a value: where its cells lie, and what they are -/
structure Rv where
  a : Option Addr
  c : Nat
  R : List Cl
def rvv (r : Rv) : Value := .slice r.a r.R.length r.c
def rvc (r : Rv) : List Value := [rvv r]
theorem length_rvc (r : Rv) : (rvc r).length = 1 := rfl
theorem one_rvc (r : Rv) : ∀ y ∈ rvc r, y.oneCell' = true := by simp [rvc, rvv, Value.oneCell']
/-- the row's cells lie in w -/
def Rok (w : World) (r : Rv) : Prop := Lt 58 4 clc w r.a r.R ∧ r.R.length ≤ 1000
theorem Rok.bel {w w' : World} {r : Rv} (h : Rok w r) (hb : Below w.heap.size w w') : Rok w' r := ⟨h.1.bel hb, h.2⟩
theorem Rok.put {w : World} {r : Rv} {g : Nat} {t : TypeId} {z : Array Value} (h : Rok w r) (hr : Row w g t z) (ht : t ≠ 58) (cs : Array Value) : Rok (w.setRow g cs) r := ⟨h.1.put hr ht cs, h.2⟩
theorem Rok.set {w : World} {r : Rv} {g : Nat} {t : TypeId} {z : Array Value} (h : Rok w r) (hr : Row w g t z) (ht : t ≠ 58) (i : Nat) (v : Value) : Rok (w.setCell ⟨g, i, none⟩ v) r := ⟨h.1.set hr ht i v, h.2⟩
theorem Rok.grown {w w' : World} {u : Value} {base n j : Nat} {e : TypeId} {xs : List Value} {r : Rv} (h : Rok w r) (ho : w.ownsRow base e j u n xs) (he : e ≠ 58) (hg : w.grownBy w' u.ownBlock) : Rok w' r := ⟨h.1.grown ho he hg, h.2⟩
/-- a list of rows lies in w -/
def Rws (w : World) (a : Option Addr) (L : List Rv) : Prop := Lt 43 1 rvc w a L ∧ ∀ r ∈ L, Rok w r
theorem Rws.bel {w w' : World} {a : Option Addr} {L : List Rv} (h : Rws w a L) (hb : Below w.heap.size w w') : Rws w' a L := ⟨h.1.bel hb, fun r hr => (h.2 r hr).bel hb⟩
/-- a line: its number and its row -/
structure Ln where
  n : Int
  r : Rv
def lnc (l : Ln) : List Value := [.int .i64 l.n, rvv l.r]
theorem length_lnc (l : Ln) : (lnc l).length = 2 := rfl
theorem one_lnc (l : Ln) : ∀ y ∈ lnc l, y.oneCell' = true := by simp [lnc, rvv, Value.oneCell']
def Lns (w : World) (a : Option Addr) (L : List Ln) : Prop := Lt 45 2 lnc w a L ∧ ∀ l ∈ L, Rok w l.r
theorem Lns.bel {w w' : World} {a : Option Addr} {L : List Ln} (h : Lns w a L) (hb : Below w.heap.size w w') : Lns w' a L := ⟨h.1.bel hb, fun r hr => (h.2 r hr).bel hb⟩
/-- a table: the next number and the lines -/
def Tb (w : World) (v : Value) (N : Int) (L : List Ln) : Prop := ∃ a c, v = .agg #[.int .i64 N, .slice a L.length c] ∧ L.length ≤ c ∧ Lns w a L
theorem Tb.bel {w w' : World} {v : Value} {N : Int} {L : List Ln} (h : Tb w v N L) (hb : Below w.heap.size w w') : Tb w' v N L := by
  obtain ⟨a, c, e, hc, h1⟩ := h
  exact ⟨a, c, e, hc, h1.bel hb⟩
/-- what the table's own list is, behind the store of the result -/
theorem lns_put {w : World} {base g : Nat} {v : Value} {L : List Ln} (h : w.ownsRow base 45 2 v L.length (L.flatMap lnc)) (hg : g < base) (cs : Array Value) : ∃ a cap, v = .slice a L.length cap ∧ L.length ≤ cap ∧ Lt 45 2 lnc (w.setRow g cs) a L := by
  obtain ⟨a, c, e, h1⟩ := lt_put length_lnc h hg cs
  obtain ⟨p, cap, e2, h2⟩ := own_cap h
  rw [e] at e2
  injection e2 with e3 e4 e5
  exact ⟨a, c, e, by omega, h1⟩
theorem Try.z38 : (Try.prog.info? 38).bind (·.zero) = some (.agg #[.int .i64 0, .slice none 0 0]) := by kernel_rfl
theorem Try.n38 : (Try.prog.info? 38).map (·.size) = some 2 := by kernel_rfl
theorem Try.z45 : (Try.prog.info? 45).bind (·.zero) = some (.agg #[.int .i64 0, .slice none 0 0]) := by kernel_rfl
theorem Try.n45 : (Try.prog.info? 45).map (·.size) = some 2 := by kernel_rfl
theorem Try.info43 : (Try.prog.info? 43).map (fun i => (i.zero, i.size, i.bytes)) = some (some (.agg #[.slice none 0 0]), 1, 24) := by kernel_rfl
theorem Try.info45 : (Try.prog.info? 45).map (fun i => (i.zero, i.size, i.bytes)) = some (some (.agg #[.int .i64 0, .slice none 0 0]), 2, 32) := by kernel_rfl
end Go.Proofs.Ytkonoojmhjinpaa
