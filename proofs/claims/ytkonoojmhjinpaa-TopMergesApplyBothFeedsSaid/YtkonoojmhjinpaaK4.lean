/- Pointers to rows, items of a feed, events; ofLine, ofItem, row, same. -/
import Derived.Test.YtkonoojmhjinpaaEr
import Derived.StillTailTactics
set_option linter.all false
namespace Go.Proofs.Ytkonoojmhjinpaa
open Go.RowKit Go.Fen
set_option linter.unusedVariables false
set_option maxHeartbeats 4000000

/-- the pointer p leads to the row x; nil: there is none -/
def Pt (w : World) (p : Option Addr) (x : Option Rv) : Prop :=
  (p = none ∧ x = none) ∨ ∃ g o r, p = some ⟨g, o, none⟩ ∧ x = some r ∧ g < w.heap.size ∧ w.cell? ⟨g, o, none⟩ = some (rvv r) ∧ Rok w r ∧ ∃ cs t fr, w.heap[g]? = some (.cells cs t fr) ∧ (t = 45 ∨ t = 71)
theorem Rok.but {w w' : World} {r : Rv} {g : Nat} {t : TypeId} {z : Array Value} (h : Rok w r) (hr : Row w g t z) (ht : t ≠ 58) (hs : w.heap.size ≤ w'.heap.size) (hw : ∀ k, k < w.heap.size → k ≠ g → w'.heap[k]? = w.heap[k]?) : Rok w' r := ⟨h.1.but hr ht hs hw, h.2⟩
theorem Pt.bel {w w' : World} {p : Option Addr} {x : Option Rv} (h : Pt w p x) (hb : Below w.heap.size w w') : Pt w' p x := by
  rcases h with h | ⟨g, o, r, hp, hx, hg, hc, hr, cs, t, fr, htag, ht⟩
  · exact .inl h
  · exact .inr ⟨g, o, r, hp, hx, Nat.lt_of_lt_of_le hg hb.size, (hb.cell (p := ⟨g, o, none⟩) hg).trans hc, hr.bel hb, cs, t, fr, (hb.block g hg).trans htag, ht⟩
theorem Pt.but {w w' : World} {p : Option Addr} {x : Option Rv} {g : Nat} {t : TypeId} {z : Array Value} (h : Pt w p x) (hr : Row w g t z) (h1 : t ≠ 45) (h2 : t ≠ 71) (h3 : t ≠ 58) (hs : w.heap.size ≤ w'.heap.size) (hw : ∀ k, k < w.heap.size → k ≠ g → w'.heap[k]? = w.heap[k]?) : Pt w' p x := by
  rcases h with h | ⟨g', o, r, hp, hx, hg, hc, hro, cs, t', fr, htag, ht⟩
  · exact .inl h
  · have hne : g' ≠ g := by
      intro e
      subst e
      have q : w.heap[g']? = Option.some (Obj.cells z t) := hr
      rw [q] at htag
      injection htag with htag
      injection htag with _ q3 _
      rcases ht with e | e
      · exact h1 (q3.trans e)
      · exact h2 (q3.trans e)
    exact .inr ⟨g', o, r, hp, hx, Nat.lt_of_lt_of_le hg hs, (World.cell?_of_block (hw _ hg hne)).trans hc, hro.but hr h3 hs hw, cs, t', fr, (hw _ hg hne).trans htag, ht⟩
section
variable {V0 w : World} {gv : Nat} {t e : TypeId} {mk : Value → Array Value} {k n : Nat} {v : Value} {xs : List Value} {z : Array Value}
/-- what lay when the variable was made lies still -/
theorem AccG.lt {α : Type} {T : TypeId} {j : Nat} {c : α → List Value} {a : Option Addr} {L : List α} (hA : AccG V0 gv t mk e k v n xs w) (hr : Row V0 gv t z) (ht : t ≠ T) (h : Lt T j c V0 a L) : Lt T j c w a L :=
  h.but hr ht hA.2.2.size fun q hq hne => hA.2.2.block q hq fun e => hne (Option.some.inj e)
theorem AccG.rok {r : Rv} (hA : AccG V0 gv t mk e k v n xs w) (hr : Row V0 gv t z) (ht : t ≠ 58) (h : Rok V0 r) : Rok w r := ⟨hA.lt hr ht h.1, h.2⟩
theorem AccG.pt {p : Option Addr} {x : Option Rv} (hA : AccG V0 gv t mk e k v n xs w) (hr : Row V0 gv t z) (h1 : t ≠ 45) (h2 : t ≠ 71) (h3 : t ≠ 58) (h : Pt V0 p x) : Pt w p x :=
  h.but hr h1 h2 h3 hA.2.2.size fun q hq hne => hA.2.2.block q hq fun e => hne (Option.some.inj e)
end
/-- an item of a feed: what it does to a number; the rows to which its pointers lead -/
structure It where
  n : Int
  p : Option Addr
  q : Option Addr
  x : Option Rv
  y : Option Rv
def itc (i : It) : List Value := [.int .i64 i.n, .pointer i.p, .pointer i.q]
theorem length_itc (i : It) : (itc i).length = 3 := rfl
theorem one_itc (i : It) : ∀ y ∈ itc i, y.oneCell' = true := by simp [itc, Value.oneCell']
def IOk (w : World) (i : It) : Prop := Pt w i.p i.x ∧ Pt w i.q i.y
theorem IOk.bel {w w' : World} {i : It} (h : IOk w i) (hb : Below w.heap.size w w') : IOk w' i := ⟨h.1.bel hb, h.2.bel hb⟩
/-- an event: its kind, its number, its row -/
structure Ev where
  k : Int
  n : Int
  r : Rv
def evc (e : Ev) : List Value := [.int .i64 e.k, .int .i64 e.n, rvv e.r]
theorem length_evc (e : Ev) : (evc e).length = 3 := rfl
theorem one_evc (e : Ev) : ∀ y ∈ evc e, y.oneCell' = true := by simp [evc, rvv, Value.oneCell']
def Evs (w : World) (a : Option Addr) (E : List Ev) : Prop := Lt 71 3 evc w a E ∧ ∀ e ∈ E, Rok w e.r
theorem Evs.bel {w w' : World} {a : Option Addr} {E : List Ev} (h : Evs w a E) (hb : Below w.heap.size w w') : Evs w' a E := ⟨h.1.bel hb, fun r hr => (h.2 r hr).bel hb⟩
/-- two states are the same -/
def sameS (x y : Option Rv) : Bool := decide (x.map (·.R) = y.map (·.R))

theorem ofLine_any (g o : Nat) (n : Int) (w : World) (h : w.cell? ⟨g, o, none⟩ = some (.int .i64 n)) : Calls Try.prog 22 #[.pointer (some ⟨g, o, none⟩)] w fun e w' => e = .returned (.int .i64 n) ∧ w' = w := by
  go_enter Try.func22, Try.ntmps22
  go_wp2_with fail
  first | go_ret | ((try simp only [Exit.inBlock, Exit.then]); go_ret)
  exact ⟨rfl, rfl⟩
theorem ofItem_any (g o : Nat) (n : Int) (w : World) (h : w.cell? ⟨g, o, none⟩ = some (.int .i64 n)) : Calls Try.prog 29 #[.pointer (some ⟨g, o, none⟩)] w fun e w' => e = .returned (.int .i64 n) ∧ w' = w := by
  go_enter Try.func29, Try.ntmps29
  go_wp2_with fail
  first | go_ret | ((try simp only [Exit.inBlock, Exit.then]); go_ret)
  exact ⟨rfl, rfl⟩
theorem row_nil (w : World) : Calls Try.prog 24 #[.pointer none] w fun e w' => e = .returned (.pointer none) ∧ w' = w := by
  go_enter Try.func24, Try.ntmps24
  go_wp2_with fail
  first | go_ret | ((try simp only [Exit.inBlock, Exit.then]); go_ret)
  exact ⟨rfl, rfl⟩
theorem row_some (g o : Nat) (w : World) : Calls Try.prog 24 #[.pointer (some ⟨g, o, none⟩)] w fun e w' => e = .returned (.pointer (some ⟨g, o + 1, none⟩)) ∧ w' = w := by
  go_enter Try.func24, Try.ntmps24
  go_wp2_with fail
  first | go_ret | ((try simp only [Exit.inBlock, Exit.then]); go_ret)
  exact ⟨rfl, rfl⟩
set_option maxRecDepth 20000 in
theorem same_any (p q : Option Addr) (x y : Option Rv) (w : World) (h1 : Pt w p x) (h2 : Pt w q y) : Calls Try.prog 31 #[.pointer p, .pointer q] w fun e w' => e = .returned (.bool (sameS x y)) ∧ Below w.heap.size w w' := by
  rcases h1 with ⟨rfl, rfl⟩ | ⟨g, o, r, rfl, rfl, hg, hc, hr, _⟩ <;> rcases h2 with ⟨rfl, rfl⟩ | ⟨g', o', r', rfl, rfl, hg', hc', hr', _⟩
  · go_enter Try.func31, Try.ntmps31
    go_wp2_with fail
    go_quiet (fail)
    go_wp2_with fail
    first | go_ret | ((try simp only [Exit.inBlock, Exit.then]); go_ret)
    exact ⟨rfl, below_drewN (Below.refl _ _) _⟩
  · go_enter Try.func31, Try.ntmps31
    go_wp2_with fail
    go_quiet (fail)
    go_wp2_with fail
    first | go_ret | ((try simp only [Exit.inBlock, Exit.then]); go_ret)
    exact ⟨rfl, below_drewN (Below.refl _ _) _⟩
  · go_enter Try.func31, Try.ntmps31
    go_wp2_with fail
    go_quiet (fail)
    go_wp2_with fail
    first | go_ret | ((try simp only [Exit.inBlock, Exit.then]); go_ret)
    exact ⟨rfl, below_drewN (Below.refl _ _) _⟩
  · have HC := Lib.hid (fun q => equal_any r r' (w.drewN q) (hr.bel (below_drewN (Below.refl _ _) q)) (hr'.bel (below_drewN (Below.refl _ _) q)))
    have HS := Lib.hid (show sameS (some r) (some r') = decide (r.R = r'.R) by simp [sameS])
    rw [HS.out]
    clear hr hr'
    go_enter Try.func31, Try.ntmps31
    go_wp2_with fail
    go_still_tail 20, (by kernel_rfl)
    change wpList _ _ _ _ _ w.drew
    rw [show w.drew = w.drewN 1 from rfl]
    go_wp2_with (go_at_call 49; refine (HC.out 1).mono ?_; rintro e w2 ⟨rfl, hb⟩)
    first | go_ret | ((try simp only [Exit.inBlock, Exit.then]); go_ret)
    exact ⟨rfl, (below_drewN (Below.refl _ _) 1).trans hb⟩
end Go.Proofs.Ytkonoojmhjinpaa
