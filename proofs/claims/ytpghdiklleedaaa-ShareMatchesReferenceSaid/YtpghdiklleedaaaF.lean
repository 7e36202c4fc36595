/- Lists of shares in memory; the contract of Split. -/
import Derived.Test.YtpghdiklleedaaaE
set_option linter.all false
namespace Go.Proofs.Ytpghdiklleedaaa
open Go.RowKit Go.Fen Gf
set_option linter.unusedVariables false
set_option maxHeartbeats 400000

/-- a share in memory: its point, the value of its slice, its bytes -/
structure Shr where
  x : BitVec 8
  v : Value
  b : List (BitVec 8)
def zs : Shr := ⟨0#8, .slice none 0 0, []⟩
/-- what a list of shares says -/
def dat (L : List Shr) : List (BitVec 8 × List (BitVec 8)) := L.map fun s => (s.x, s.b)
def scells : List Shr → List Value
  | [] => []
  | s :: r => .int .u8 s.x.toNat :: s.v :: scells r
theorem length_scells (L : List Shr) : (scells L).length = L.length * 2 := by
  induction L with
  | nil => rfl
  | cons s r ih => simp [scells, ih]; omega
theorem scells_x (L : List Shr) : ∀ i, i < L.length → (scells L)[i * 2]? = some (.int .u8 (L.getD i zs).x.toNat) := by
  induction L with
  | nil => intro i hi; simp at hi
  | cons s r ih =>
    intro i hi
    cases i with
    | zero => rfl
    | succ i => rw [show (i + 1) * 2 = (i * 2 + 1) + 1 by omega]; exact ih i (by simpa using hi)
theorem scells_v (L : List Shr) : ∀ i, i < L.length → (scells L)[i * 2 + 1]? = some (L.getD i zs).v := by
  induction L with
  | nil => intro i hi; simp at hi
  | cons s r ih =>
    intro i hi
    cases i with
    | zero => rfl
    | succ i => rw [show (i + 1) * 2 + 1 = (i * 2 + 1 + 1) + 1 by omega]; exact ih i (by simpa using hi)
theorem scells_set (L : List Shr) (s : Shr) : ∀ i, ((scells L).set (i * 2) (.int .u8 s.x.toNat)).set (i * 2 + 1) s.v = scells (L.set i s) := by
  induction L with
  | nil => intro i; rfl
  | cons t r ih =>
    intro i
    cases i with
    | zero => rfl
    | succ i =>
      rw [show (i + 1) * 2 = (i * 2 + 1) + 1 by omega, show i * 2 + 1 + 1 + 1 = (i * 2 + 1 + 1) + 1 by omega]
      simp only [scells, List.set_cons_succ]
      rw [← ih i]
theorem scells_append (L M : List Shr) : scells (L ++ M) = scells L ++ scells M := by
  induction L with
  | nil => rfl
  | cons s r ih => simp [scells, ih]
theorem made_shares (n : Nat) : madeCells #[Value.int .u8 0, .slice none 0 0] (n * 2) = (scells (List.replicate n zs)).toArray := by
  apply Array.ext_getElem?
  intro i
  have hl : (scells (List.replicate n zs)).length = n * 2 := by rw [length_scells]; simp
  by_cases h : i < n * 2
  · have h2 : i / 2 < n := by omega
    rcases Nat.mod_two_eq_zero_or_one i with e | e
    · have := scells_x (List.replicate n zs) (i / 2) (by simpa using h2)
      rw [show i / 2 * 2 = i by omega] at this
      simp only [List.getElem?_toArray, this]
      simp [madeCells, h, e, List.getD, h2, zs]
    · have := scells_v (List.replicate n zs) (i / 2) (by simpa using h2)
      rw [show i / 2 * 2 + 1 = i by omega] at this
      simp only [List.getElem?_toArray, this]
      simp [madeCells, h, e, List.getD, h2, zs]
  · rw [Array.getElem?_eq_none (by rw [size_madeCells]; omega)]
    simp only [List.getElem?_toArray]
    rw [List.getElem?_eq_none (by rw [hl]; omega)]
theorem one_scells (L : List Shr) (h : ∀ s ∈ L, s.v.oneCell' = true) : ∀ v ∈ scells L, v.oneCell' = true := by
  induction L with
  | nil => intro v hv; simp [scells] at hv
  | cons s r ih =>
    intro v hv
    simp only [scells, List.mem_cons] at hv
    rcases hv with rfl | rfl | hv
    · simp [Value.oneCell']
    · exact h s (by simp)
    · exact ih (fun t ht => h t (by simp [ht])) v hv

/-- v is a slice that holds the bytes b -/
def SV (w : World) (v : Value) (b : List (BitVec 8)) : Prop := ∃ a c, v = .slice a b.length c ∧ b.length ≤ c ∧ Bs w a b
theorem SV.below {w w' : World} {B : Nat} {v : Value} {b : List (BitVec 8)} (h : SV w v b) (hb : Below B w w') (hB : w.heap.size ≤ B) : SV w' v b := by
  obtain ⟨a, c, e, hc, hbs⟩ := h
  exact ⟨a, c, e, hc, hbs.below hb hB⟩
theorem SV.drewN {w : World} {v : Value} {b : List (BitVec 8)} (h : SV w v b) (n : Nat) : SV (w.drewN n) v b := by
  obtain ⟨a, c, e, hc, hbs⟩ := h
  exact ⟨a, c, e, hc, by rcases hbs with h | ⟨g, o, ha, hcc⟩; exact .inl h; exact .inr ⟨g, o, ha, hcc⟩⟩
theorem SV.one {w : World} {v : Value} {b : List (BitVec 8)} (h : SV w v b) : v.oneCell' = true := by
  obtain ⟨a, c, e, _⟩ := h
  rw [e]; rfl
/-- The slice that begins at a holds the shares L. -/
structure Shs (w : World) (a : Option Addr) (L : List Shr) : Prop where
  cells : L = [] ∨ ∃ g o, a = some ⟨g, o, none⟩ ∧ ∀ i, i < L.length → w.cell? ⟨g, o + i * 2, none⟩ = some (.int .u8 (L.getD i zs).x.toNat) ∧ w.cell? ⟨g, o + i * 2 + 1, none⟩ = some (L.getD i zs).v
  svs : ∀ i, i < L.length → SV w (L.getD i zs).v (L.getD i zs).b
theorem Shs.below {w w' : World} {B : Nat} {a : Option Addr} {L : List Shr} (h : Shs w a L) (hb : Below B w w') (hB : w.heap.size ≤ B) : Shs w' a L := by
  refine ⟨?_, fun i hi => (h.svs i hi).below hb hB⟩
  rcases h.cells with h1 | ⟨g, o, ha, hc⟩
  · exact .inl h1
  · refine .inr ⟨g, o, ha, fun i hi => ?_⟩
    obtain ⟨h1, h2⟩ := hc i hi
    have hlt : g < w.heap.size := block_lt_of_cell (a := ⟨g, o + i * 2, none⟩) h1
    exact ⟨(hb.cell (p := ⟨g, o + i * 2, none⟩) (by show g < B; omega)).trans h1, (hb.cell (p := ⟨g, o + i * 2 + 1, none⟩) (by show g < B; omega)).trans h2⟩
theorem Shs.drewN {w : World} {a : Option Addr} {L : List Shr} (h : Shs w a L) (n : Nat) : Shs (w.drewN n) a L :=
  ⟨h.cells, fun i hi => (h.svs i hi).drewN n⟩
theorem Shs.of_row {w : World} {g : Nat} {t : TypeId} {L : List Shr} (h : Row w g t (scells L).toArray) (hs : ∀ i, i < L.length → SV w (L.getD i zs).v (L.getD i zs).b) : Shs w (some ⟨g, 0, none⟩) L := by
  refine ⟨.inr ⟨g, 0, rfl, fun i hi => ?_⟩, hs⟩
  rw [Nat.zero_add]
  exact ⟨(h.cell _).trans (by simpa using scells_x L i hi), (h.cell _).trans (by simpa using scells_v L i hi)⟩

theorem Row.set2 {w : World} {g : Nat} {t : TypeId} {L : List Shr} (h : Row w g t (scells L).toArray) (i : Nat) (s : Shr) : Row (w.setCells g (i * 2) [.int .u8 s.x.toNat, s.v]) g t (scells (L.set i s)).toArray := by
  have h1 := (h.set (i * 2) (.int .u8 s.x.toNat)).set (i * 2 + 1) s.v
  rw [← scells_set]
  simpa [World.setCells] using h1
theorem Row.there2 {w : World} {g : Nat} {t : TypeId} {L : List Shr} (h : Row w g t (scells L).toArray) (i : Nat) (hi : i < L.length) : w.there g (i * 2) 2 := by
  intro j hj
  refine ⟨?_, h.frozen _⟩
  rw [h.cell]
  have := length_scells L
  rw [Array.getElem?_eq_getElem (by simp [this]; omega)]
  rfl
theorem Row.setCells_other {w : World} {g g' : Nat} {t : TypeId} {C : Array Value} (h : Row w g t C) (hg : g ≠ g') (o : Nat) (u v : Value) : Row (w.setCells g' o [u, v]) g t C := by
  have h1 := (h.setOther (a := ⟨g', o, none⟩) hg u).setOther (a := ⟨g', o + 1, none⟩) hg v
  simpa [World.setCells] using h1
theorem below_setCells2 {B : Nat} {w0 w : World} (h : Below B w0 w) {g : Nat} (hg : B ≤ g) (o : Nat) (u v : Value) : Below B w0 (w.setCells g o [u, v]) := by
  have h1 := (h.setCell (show B ≤ (⟨g, o, none⟩ : Addr).block from hg) u).setCell (show B ≤ (⟨g, o + 1, none⟩ : Addr).block from hg) v
  simpa [World.setCells] using h1
end Go.Proofs.Ytpghdiklleedaaa
