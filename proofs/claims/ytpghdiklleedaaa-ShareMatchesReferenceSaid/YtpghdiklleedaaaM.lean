/- The contract of sanity: the fixed examples. -/
import Derived.Test.YtpghdiklleedaaaL
set_option linter.all false
namespace Go.Proofs.Ytpghdiklleedaaa
open Go.RowKit Go.Fen Gf
set_option linter.unusedVariables false
set_option maxHeartbeats 400000

theorem ev1 : splitL [5#8] [3#8] 2 3 = [(1#8, [6#8]), (2#8, [3#8]), (3#8, [0#8])] := by decide +kernel
theorem ev2 : combR [(3#8, [0#8]), (1#8, [6#8])] 2 = some [5#8] := by decide +kernel
theorem ev3 : combR [(1#8, [6#8]), (2#8, [4#8]), (3#8, [0#8])] 2 = none := by decide +kernel
theorem ev4 : combR [(1#8, [6#8])] 2 = none := by decide +kernel
theorem ev7 : combR [(0#8, [6#8])] 1 = none := by decide +kernel
theorem ev8 : well [(1#8, [6#8])] = true ∧ refreshL [(1#8, [6#8])] [3#8] 2 = [(1#8, [5#8])] := by decide +kernel
theorem ev9 : (mul 87#8 131#8).toNat = 193 ∧ (inv 2#8).toNat = 141 ∧ (inv 0#8).toNat = 0 := by decide +kernel

/-- one byte in a block of its own -/
theorem bs_one {w : World} {g : Nat} {b : BitVec 8} (h : Row w g 5 #[.int .u8 b.toNat]) : SV w (.slice (some ⟨g, 0, none⟩) 1 1) [b] :=
  ⟨some ⟨g, 0, none⟩, 1, rfl, Nat.le_refl _, Bs.of_row (l := [b]) h⟩
theorem sh1 {w : World} {g g1 : Nat} {x b : BitVec 8} (h : Row w g 33 #[.int .u8 x.toNat, .slice (some ⟨g1, 0, none⟩) 1 1]) (h1 : Row w g1 5 #[.int .u8 b.toNat]) :
    Shs w (some ⟨g, 0, none⟩) [⟨x, .slice (some ⟨g1, 0, none⟩) 1 1, [b]⟩] :=
  Shs.of_row (L := [⟨x, .slice (some ⟨g1, 0, none⟩) 1 1, [b]⟩]) h fun i hi => by
    match i, hi with
    | 0, _ => exact bs_one h1
theorem sh2 {w : World} {g g1 g2 : Nat} {x b y c : BitVec 8} (h : Row w g 33 #[.int .u8 x.toNat, .slice (some ⟨g1, 0, none⟩) 1 1, .int .u8 y.toNat, .slice (some ⟨g2, 0, none⟩) 1 1]) (h1 : Row w g1 5 #[.int .u8 b.toNat]) (h2 : Row w g2 5 #[.int .u8 c.toNat]) :
    Shs w (some ⟨g, 0, none⟩) [⟨x, .slice (some ⟨g1, 0, none⟩) 1 1, [b]⟩, ⟨y, .slice (some ⟨g2, 0, none⟩) 1 1, [c]⟩] :=
  Shs.of_row (L := [⟨x, .slice (some ⟨g1, 0, none⟩) 1 1, [b]⟩, ⟨y, .slice (some ⟨g2, 0, none⟩) 1 1, [c]⟩]) h fun i hi => by
    match i, hi with
    | 0, _ => exact bs_one h1
    | 1, _ => exact bs_one h2
theorem sh3 {w : World} {g g1 g2 g3 : Nat} {x b y c z d : BitVec 8} (h : Row w g 33 #[.int .u8 x.toNat, .slice (some ⟨g1, 0, none⟩) 1 1, .int .u8 y.toNat, .slice (some ⟨g2, 0, none⟩) 1 1, .int .u8 z.toNat, .slice (some ⟨g3, 0, none⟩) 1 1]) (h1 : Row w g1 5 #[.int .u8 b.toNat]) (h2 : Row w g2 5 #[.int .u8 c.toNat]) (h3 : Row w g3 5 #[.int .u8 d.toNat]) :
    Shs w (some ⟨g, 0, none⟩) [⟨x, .slice (some ⟨g1, 0, none⟩) 1 1, [b]⟩, ⟨y, .slice (some ⟨g2, 0, none⟩) 1 1, [c]⟩, ⟨z, .slice (some ⟨g3, 0, none⟩) 1 1, [d]⟩] :=
  Shs.of_row (L := [⟨x, .slice (some ⟨g1, 0, none⟩) 1 1, [b]⟩, ⟨y, .slice (some ⟨g2, 0, none⟩) 1 1, [c]⟩, ⟨z, .slice (some ⟨g3, 0, none⟩) 1 1, [d]⟩]) h fun i hi => by
    match i, hi with
    | 0, _ => exact bs_one h1
    | 1, _ => exact bs_one h2
    | 2, _ => exact bs_one h3

theorem comb_some (a : Option Addr) (L : List Shr) (l c need : Nat) (r : List (BitVec 8)) (hl : l = L.length) (h1 : 1 ≤ need) (h2 : need ≤ 255) (hL : L.length ≤ 1000000) (hbl : ∀ s ∈ L, s.b.length ≤ 1000000) (w : World) (hs : Shs w a L) (hr : combR (dat L) need = some r) :
    Calls Try.prog 18 #[.slice a l c, .int .i64 need] w fun e w' => (∃ g', e = .returned (.tuple #[.slice (some ⟨g', 0, none⟩) r.length r.length, .int .i64 0]) ∧ Row w' g' 5 (bcells r)) ∧ Below w.heap.size w w' := by
  subst hl
  refine (combine_any a L c need h1 h2 hL (fun i hi => hbl _ (getD_mem L i hi)) w hs).mono fun e w' ⟨hp, hb⟩ => ⟨?_, hb⟩
  rw [combPost, hr] at hp
  obtain ⟨g', he, _, hrow⟩ := hp
  exact ⟨g', he, hrow⟩
theorem comb_none (a : Option Addr) (L : List Shr) (l c need : Nat) (hl : l = L.length) (h1 : 1 ≤ need) (h2 : need ≤ 255) (hL : L.length ≤ 1000000) (hbl : ∀ s ∈ L, s.b.length ≤ 1000000) (w : World) (hs : Shs w a L) (hr : combR (dat L) need = none) :
    Calls Try.prog 18 #[.slice a l c, .int .i64 need] w fun e w' => e = .returned (.tuple #[.slice none 0 0, .int .i64 40]) ∧ Below w.heap.size w w' := by
  subst hl
  refine (combine_any a L c need h1 h2 hL (fun i hi => hbl _ (getD_mem L i hi)) w hs).mono fun e w' ⟨hp, hb⟩ => ⟨?_, hb⟩
  rw [combPost, hr] at hp
  exact hp

theorem sameShares_true (a1 a2 : Option Addr) (L1 L2 : List Shr) (n1 n2 c1 c2 : Nat) (e1 : n1 = L1.length) (e2 : n2 = L2.length) (h1 : L1.length ≤ 1000000) (h2 : L2.length ≤ 1000000) (hb1 : ∀ i, i < L1.length → (L1.getD i zs).b.length ≤ 1000000) (hb2 : ∀ i, i < L2.length → (L2.getD i zs).b.length ≤ 1000000)
    (w : World) (s1 : Shs w a1 L1) (s2 : Shs w a2 L2) (he : dat L1 = dat L2) :
    Calls Try.prog 22 #[.slice a1 n1 c1, .slice a2 n2 c2] w fun e w' => e = .returned (.bool true) ∧ ∃ n, w' = w.drewN n := by
  subst e1
  subst e2
  have := sameShares_any a1 a2 L1 L2 c1 c2 h1 h2 hb1 hb2 w s1 s2
  rw [decide_eq_true he] at this
  exact this

set_option maxHeartbeats 4000000 in
theorem sanity_any (w : World) : Calls Try.prog 11 #[] w fun e w' => e = .returned (.bool true) ∧ Below w.heap.size w w' := by
  go_enter Try.func11, Try.ntmps11
  go_wp2_with fail
  -- Split
  obtain ⟨Wa, hWa⟩ : ∃ W, W = (w.alloc (.cells #[.int .u8 5] 5)).alloc (.cells #[.int .u8 3] 5) := ⟨_, rfl⟩
  have ba : Below w.heap.size w Wa := by rw [hWa]; exact ((Below.refl _ _).alloc (Nat.le_refl _) _).alloc (by simp) _
  have ra : Row Wa w.heap.size 5 (bcells [5#8]) := by rw [hWa]; exact (Row.new' _ _ rfl).alloc _
  have rb : Row Wa (w.heap.size + 1) 5 (bcells [3#8]) := by rw [hWa]; exact Row.new' _ _ (by simp)
  rw [← hWa]
  refine (split_any (some ⟨w.heap.size, 0, none⟩) (some ⟨w.heap.size + 1, 0, none⟩) [5#8] [3#8] 1 1 2 3 (by omega) (by omega) (by omega) (by simp) (by simp) Wa (Bs.of_row ra) (Bs.of_row rb)).mono ?_
  rintro e W1 ⟨gl, M, rfl, hM, hMl, hMs, hx1, hx2, hb⟩
  rw [ev1] at hM
  have b1 : Below w.heap.size w W1 := ba.trans (hb.mono ba.size)
  clear hx1 hx2 hWa ba ra rb hb Wa
  go_wp2_with fail
  obtain ⟨Wa, hWa⟩ : ∃ W, W = ((W1.alloc (.cells #[.int .u8 0] 5)).alloc (.cells #[.int .u8 6] 5)).alloc (.cells #[.int .u8 3, .slice (some ⟨W1.heap.size, 0, none⟩) 1 1, .int .u8 1, .slice (some ⟨W1.heap.size + 1, 0, none⟩) 1 1] 33) := ⟨_, rfl⟩
  have ba : Below W1.heap.size W1 Wa := by rw [hWa]; exact (((Below.refl _ _).alloc (Nat.le_refl _) _).alloc (by simp) _).alloc (by simp; omega) _
  have r0 : Row Wa (W1.heap.size) 5 #[.int .u8 (0#8).toNat] := by rw [hWa]; exact (((Row.new' _ _ rfl).alloc _).alloc _)
  have r1 : Row Wa (W1.heap.size + 1) 5 #[.int .u8 (6#8).toNat] := by rw [hWa]; exact ((Row.new' _ _ (by simp)).alloc _)
  have rl : Row Wa (W1.heap.size + 1 + 1) 33 #[.int .u8 (3#8).toNat, .slice (some ⟨W1.heap.size, 0, none⟩) 1 1, .int .u8 (1#8).toNat, .slice (some ⟨W1.heap.size + 1, 0, none⟩) 1 1] := by rw [hWa]; exact Row.new' _ _ (by simp)
  rw [← hWa]
  refine (comb_some (some ⟨W1.heap.size + 1 + 1, 0, none⟩) [⟨3#8, .slice (some ⟨W1.heap.size, 0, none⟩) 1 1, [0#8]⟩, ⟨1#8, .slice (some ⟨W1.heap.size + 1, 0, none⟩) 1 1, [6#8]⟩] 2 2 2 [5#8] rfl (by omega) (by omega) (by simp) (by simp) Wa (sh2 rl r0 r1) ev2).mono ?_
  rintro e W2 ⟨⟨ga, rfl, hga⟩, hb⟩
  have bb : Below W1.heap.size W1 W2 := ba.trans (hb.mono ba.size)
  have b2 : Below w.heap.size w W2 := b1.trans (bb.mono b1.size)
  replace hMs := hMs.below bb (Nat.le_refl _)
  clear hWa ba hb bb rl r0 r1 Wa b1
  go_wp2_with fail
  obtain ⟨Wa, hWa⟩ : ∃ W, W = (((W2.alloc (.cells #[.int .u8 6] 5)).alloc (.cells #[.int .u8 4] 5)).alloc (.cells #[.int .u8 0] 5)).alloc (.cells #[.int .u8 1, .slice (some ⟨W2.heap.size, 0, none⟩) 1 1, .int .u8 2, .slice (some ⟨W2.heap.size + 1, 0, none⟩) 1 1, .int .u8 3, .slice (some ⟨W2.heap.size + 1 + 1, 0, none⟩) 1 1] 33) := ⟨_, rfl⟩
  have ba : Below W2.heap.size W2 Wa := by rw [hWa]; exact ((((Below.refl _ _).alloc (Nat.le_refl _) _).alloc (by simp) _).alloc (by simp; omega) _).alloc (by simp; omega) _
  have r0 : Row Wa (W2.heap.size) 5 #[.int .u8 (6#8).toNat] := by rw [hWa]; exact ((((Row.new' _ _ rfl).alloc _).alloc _).alloc _)
  have r1 : Row Wa (W2.heap.size + 1) 5 #[.int .u8 (4#8).toNat] := by rw [hWa]; exact (((Row.new' _ _ (by simp)).alloc _).alloc _)
  have r2 : Row Wa (W2.heap.size + 1 + 1) 5 #[.int .u8 (0#8).toNat] := by rw [hWa]; exact ((Row.new' _ _ (by simp)).alloc _)
  have rl : Row Wa (W2.heap.size + 1 + 1 + 1) 33 #[.int .u8 (1#8).toNat, .slice (some ⟨W2.heap.size, 0, none⟩) 1 1, .int .u8 (2#8).toNat, .slice (some ⟨W2.heap.size + 1, 0, none⟩) 1 1, .int .u8 (3#8).toNat, .slice (some ⟨W2.heap.size + 1 + 1, 0, none⟩) 1 1] := by rw [hWa]; exact Row.new' _ _ (by simp)
  rw [← hWa]
  refine (comb_none (some ⟨W2.heap.size + 1 + 1 + 1, 0, none⟩) [⟨1#8, .slice (some ⟨W2.heap.size, 0, none⟩) 1 1, [6#8]⟩, ⟨2#8, .slice (some ⟨W2.heap.size + 1, 0, none⟩) 1 1, [4#8]⟩, ⟨3#8, .slice (some ⟨W2.heap.size + 1 + 1, 0, none⟩) 1 1, [0#8]⟩] 3 3 2 rfl (by omega) (by omega) (by simp) (by simp) Wa (sh3 rl r0 r1 r2) ev3).mono ?_
  rintro e W3 ⟨rfl, hb⟩
  have bb : Below W2.heap.size W2 W3 := ba.trans (hb.mono ba.size)
  have b3 : Below w.heap.size w W3 := b2.trans (bb.mono b2.size)
  replace hMs := hMs.below bb (Nat.le_refl _)
  replace hga := hga.below bb hga.lt
  clear hWa ba hb bb rl r0 r1 r2 Wa b2
  go_wp2_with fail
  obtain ⟨Wa, hWa⟩ : ∃ W, W = (W3.alloc (.cells #[.int .u8 6] 5)).alloc (.cells #[.int .u8 1, .slice (some ⟨W3.heap.size, 0, none⟩) 1 1] 33) := ⟨_, rfl⟩
  have ba : Below W3.heap.size W3 Wa := by rw [hWa]; exact ((Below.refl _ _).alloc (Nat.le_refl _) _).alloc (by simp) _
  have r0 : Row Wa (W3.heap.size) 5 #[.int .u8 (6#8).toNat] := by rw [hWa]; exact ((Row.new' _ _ rfl).alloc _)
  have rl : Row Wa (W3.heap.size + 1) 33 #[.int .u8 (1#8).toNat, .slice (some ⟨W3.heap.size, 0, none⟩) 1 1] := by rw [hWa]; exact Row.new' _ _ (by simp)
  rw [← hWa]
  refine (comb_none (some ⟨W3.heap.size + 1, 0, none⟩) [⟨1#8, .slice (some ⟨W3.heap.size, 0, none⟩) 1 1, [6#8]⟩] 1 1 2 rfl (by omega) (by omega) (by simp) (by simp) Wa (sh1 rl r0) ev4).mono ?_
  rintro e W4 ⟨rfl, hb⟩
  have bb : Below W3.heap.size W3 W4 := ba.trans (hb.mono ba.size)
  have b4 : Below w.heap.size w W4 := b3.trans (bb.mono b3.size)
  replace hMs := hMs.below bb (Nat.le_refl _)
  replace hga := hga.below bb hga.lt
  clear hWa ba hb bb rl r0 Wa b3
  go_wp2_with fail
  refine (split_bad none none 0 0 0 0 3 2 (by omega) W4).mono ?_
  rintro e W5 ⟨rfl, hb⟩
  have b5 : Below w.heap.size w W5 := b4.trans (hb.mono b4.size)
  replace hMs := hMs.below hb (Nat.le_refl _)
  replace hga := hga.below hb hga.lt
  clear hb b4
  go_wp2_with fail
  refine (combine_bad none 0 0 0 (by omega) W5).mono ?_
  rintro e W5' ⟨rfl, rfl⟩
  go_wp2_with fail
  obtain ⟨Wa, hWa⟩ : ∃ W, W = (W5.alloc (.cells #[.int .u8 6] 5)).alloc (.cells #[.int .u8 0, .slice (some ⟨W5.heap.size, 0, none⟩) 1 1] 33) := ⟨_, rfl⟩
  have ba : Below W5.heap.size W5 Wa := by rw [hWa]; exact ((Below.refl _ _).alloc (Nat.le_refl _) _).alloc (by simp) _
  have r0 : Row Wa (W5.heap.size) 5 #[.int .u8 (6#8).toNat] := by rw [hWa]; exact ((Row.new' _ _ rfl).alloc _)
  have rl : Row Wa (W5.heap.size + 1) 33 #[.int .u8 (0#8).toNat, .slice (some ⟨W5.heap.size, 0, none⟩) 1 1] := by rw [hWa]; exact Row.new' _ _ (by simp)
  rw [← hWa]
  refine (comb_none (some ⟨W5.heap.size + 1, 0, none⟩) [⟨0#8, .slice (some ⟨W5.heap.size, 0, none⟩) 1 1, [6#8]⟩] 1 1 1 rfl (by omega) (by omega) (by simp) (by simp) Wa (sh1 rl r0) ev7).mono ?_
  rintro e W6 ⟨rfl, hb⟩
  have bb : Below W5.heap.size W5 W6 := ba.trans (hb.mono ba.size)
  have b6 : Below w.heap.size w W6 := b5.trans (bb.mono b5.size)
  replace hMs := hMs.below bb (Nat.le_refl _)
  replace hga := hga.below bb hga.lt
  clear hWa ba hb bb rl r0 Wa b5
  go_wp2_with fail
  obtain ⟨Wa, hWa⟩ : ∃ W, W = ((W6.alloc (.cells #[.int .u8 6] 5)).alloc (.cells #[.int .u8 1, .slice (some ⟨W6.heap.size, 0, none⟩) 1 1] 33)).alloc (.cells #[.int .u8 3] 5) := ⟨_, rfl⟩
  have ba : Below W6.heap.size W6 Wa := by rw [hWa]; exact (((Below.refl _ _).alloc (Nat.le_refl _) _).alloc (by simp) _).alloc (by simp; omega) _
  have r0 : Row Wa W6.heap.size 5 #[.int .u8 (6#8).toNat] := by rw [hWa]; exact ((Row.new' _ _ rfl).alloc _).alloc _
  have rl : Row Wa (W6.heap.size + 1) 33 #[.int .u8 (1#8).toNat, .slice (some ⟨W6.heap.size, 0, none⟩) 1 1] := by rw [hWa]; exact (Row.new' _ _ (by simp)).alloc _
  have r3 : Row Wa (W6.heap.size + 1 + 1) 5 (bcells [3#8]) := by rw [hWa]; exact Row.new' _ _ (by simp)
  rw [← hWa]
  refine (refresh_any (some ⟨W6.heap.size + 1, 0, none⟩) (some ⟨W6.heap.size + 1 + 1, 0, none⟩) [⟨1#8, .slice (some ⟨W6.heap.size, 0, none⟩) 1 1, [6#8]⟩] [3#8] 1 1 2 (by omega) (by omega) (by simp) (fun i hi => by
    match i, hi with
    | 0, _ => simp) (by simp) Wa (sh1 rl r0) (Bs.of_row r3)).mono ?_
  rintro e W7 ⟨hcase, hb⟩
  rcases hcase with ⟨h1, _⟩ | ⟨_, gm, M2, rfl, hM2, hM2l, hM2s, hy1, hy2⟩
  · exact absurd (h1.symm.trans ev8.1) (by simp)
  replace hM2 : dat M2 = [(1#8, [5#8])] := hM2.trans ev8.2
  have bb : Below W6.heap.size W6 W7 := ba.trans (hb.mono ba.size)
  have b7 : Below w.heap.size w W7 := b6.trans (bb.mono b6.size)
  replace hMs := hMs.below bb (Nat.le_refl _)
  replace hga := hga.below bb hga.lt
  clear hy1 hy2 hWa ba hb bb rl r0 r3 Wa b6
  go_wp2_with fail
  obtain ⟨W8, hW8⟩ : ∃ W, W = (((W7.alloc (.cells #[.int .u8 6] 5)).alloc (.cells #[.int .u8 3] 5)).alloc (.cells #[.int .u8 0] 5)).alloc (.cells #[.int .u8 1, .slice (some ⟨W7.heap.size, 0, none⟩) 1 1, .int .u8 2, .slice (some ⟨W7.heap.size + 1, 0, none⟩) 1 1, .int .u8 3, .slice (some ⟨W7.heap.size + 1 + 1, 0, none⟩) 1 1] 33) := ⟨_, rfl⟩
  have ba : Below W7.heap.size W7 W8 := by rw [hW8]; exact ((((Below.refl _ _).alloc (Nat.le_refl _) _).alloc (by simp) _).alloc (by simp; omega) _).alloc (by simp; omega) _
  have r0 : Row W8 W7.heap.size 5 #[.int .u8 (6#8).toNat] := by rw [hW8]; exact (((Row.new' _ _ rfl).alloc _).alloc _).alloc _
  have r1 : Row W8 (W7.heap.size + 1) 5 #[.int .u8 (3#8).toNat] := by rw [hW8]; exact ((Row.new' _ _ (by simp)).alloc _).alloc _
  have r2 : Row W8 (W7.heap.size + 1 + 1) 5 #[.int .u8 (0#8).toNat] := by rw [hW8]; exact (Row.new' _ _ (by simp)).alloc _
  have rl : Row W8 (W7.heap.size + 1 + 1 + 1) 33 #[.int .u8 (1#8).toNat, .slice (some ⟨W7.heap.size, 0, none⟩) 1 1, .int .u8 (2#8).toNat, .slice (some ⟨W7.heap.size + 1, 0, none⟩) 1 1, .int .u8 (3#8).toNat, .slice (some ⟨W7.heap.size + 1 + 1, 0, none⟩) 1 1] := by rw [hW8]; exact Row.new' _ _ (by simp)
  have hW := sh3 rl r0 r1 r2
  rw [← hW8]
  have b8 : Below w.heap.size w W8 := b7.trans (ba.mono b7.size)
  replace hMs := hMs.below ba (Nat.le_refl _)
  replace hM2s := hM2s.below ba (Nat.le_refl _)
  replace hga := hga.below ba hga.lt
  generalize W7.heap.size = z at *
  clear hW8 ba r0 r1 r2 rl b7
  have hmu : Calls Try.prog 12 #[.int .u8 87, .int .u8 131] W8 fun e w' => e = .returned (.int .u8 193) ∧ W8 = w' := by
    have := mul_any 87#8 131#8 W8
    rw [ev9.1] at this
    exact this
  refine hmu.mono ?_
  rintro e W8' ⟨rfl, rfl⟩
  clear hmu
  go_wp2_with fail
  have hi1 : Calls Try.prog 14 #[.int .u8 2] W8 fun e w' => e = .returned (.int .u8 141) ∧ Below W8.heap.size W8 w' := by
    have := inv_any 2#8 W8
    rw [ev9.2.1] at this
    exact this
  refine hi1.mono ?_
  rintro e W9 ⟨rfl, hb⟩
  have b9 : Below w.heap.size w W9 := b8.trans (hb.mono b8.size)
  replace hMs := hMs.below hb (Nat.le_refl _)
  replace hM2s := hM2s.below hb (Nat.le_refl _)
  replace hW := hW.below hb (Nat.le_refl _)
  replace hga := hga.below hb hga.lt
  clear hb b8 hi1
  go_wp2_with fail
  have hi2 : Calls Try.prog 14 #[.int .u8 0] W9 fun e w' => e = .returned (.int .u8 0) ∧ Below W9.heap.size W9 w' := by
    have := inv_any 0#8 W9
    rw [ev9.2.2] at this
    exact this
  refine hi2.mono ?_
  rintro e W10 ⟨rfl, hb⟩
  have b10 : Below w.heap.size w W10 := b9.trans (hb.mono b9.size)
  replace hMs := hMs.below hb (Nat.le_refl _)
  replace hM2s := hM2s.below hb (Nat.le_refl _)
  replace hW := hW.below hb (Nat.le_refl _)
  replace hga := hga.below hb hga.lt
  clear hb b9 hi2
  go_wp2_with fail
  have hl1 : ∀ i, i < M.length → (M.getD i zs).b.length ≤ 1000000 := fun i hi => by
    rw [← dB_dat, hM]
    rw [hMl] at hi
    match i, hi with
    | 0, _ => simp [dB]
    | 1, _ => simp [dB]
    | 2, _ => simp [dB]
  have hss := sameShares_true (some ⟨gl, 0, none⟩) (some ⟨z + 1 + 1 + 1, 0, none⟩) M _ 3 3 3 3 hMl.symm rfl (by rw [hMl]; omega) (by simp) hl1 (fun i hi => by
    match i, hi with
    | 0, _ => simp
    | 1, _ => simp
    | 2, _ => simp) W10 hMs hW hM
  refine hss.mono ?_
  rintro e W11 ⟨rfl, q, hq⟩
  have b11 : Below w.heap.size w W11 := by rw [hq]; exact below_drewN b10 q
  replace hM2s : Shs W11 (some ⟨gm, 0, none⟩) M2 := by rw [hq]; exact hM2s.drewN q
  replace hga : Row W11 ga 5 (bcells [5#8]) := by rw [hq]; exact hga
  clear hq hss hl1 hMs hW b10 hM hMl
  go_wp2_with fail
  have bb : Below W11.heap.size W11 (W11.alloc (.cells #[.int .u8 5] 5)) := (Below.refl _ _).alloc (Nat.le_refl _) _
  have rr : Row (W11.alloc (.cells #[.int .u8 5] 5)) W11.heap.size 5 (bcells [5#8]) := Row.new' _ _ rfl
  have b12 : Below w.heap.size w (W11.alloc (.cells #[.int .u8 5] 5)) := b11.trans (bb.mono b11.size)
  replace hM2s := hM2s.below bb (Nat.le_refl _)
  replace hga := hga.below bb hga.lt
  have hsm := same_any (some ⟨ga, 0, none⟩) (some ⟨W11.heap.size, 0, none⟩) [5#8] [5#8] 1 1 (W11.alloc (.cells #[.int .u8 5] 5)) (by simp) (by simp) (Bs.of_row hga) (Bs.of_row rr)
  rw [decide_eq_true rfl] at hsm
  refine hsm.mono ?_
  rintro e W13 ⟨rfl, q, hq⟩
  have b13 : Below w.heap.size w W13 := by rw [hq]; exact below_drewN b12 q
  replace hM2s : Shs W13 (some ⟨gm, 0, none⟩) M2 := by rw [hq]; exact hM2s.drewN q
  clear hq hsm hga b12 b11 bb rr
  go_wp2_with fail
  obtain ⟨Wa, hWa⟩ : ∃ W, W = (W13.alloc (.cells #[.int .u8 5] 5)).alloc (.cells #[.int .u8 1, .slice (some ⟨W13.heap.size, 0, none⟩) 1 1] 33) := ⟨_, rfl⟩
  have ba : Below W13.heap.size W13 Wa := by rw [hWa]; exact ((Below.refl _ _).alloc (Nat.le_refl _) _).alloc (by simp) _
  have r0 : Row Wa W13.heap.size 5 #[.int .u8 (5#8).toNat] := by rw [hWa]; exact (Row.new' _ _ rfl).alloc _
  have rl : Row Wa (W13.heap.size + 1) 33 #[.int .u8 (1#8).toNat, .slice (some ⟨W13.heap.size, 0, none⟩) 1 1] := by rw [hWa]; exact Row.new' _ _ (by simp)
  rw [← hWa]
  have b14 : Below w.heap.size w Wa := b13.trans (ba.mono b13.size)
  replace hM2s := hM2s.below ba (Nat.le_refl _)
  have hM2l' : M2.length = 1 := hM2l
  have hl2 : ∀ i, i < M2.length → (M2.getD i zs).b.length ≤ 1000000 := fun i hi => by
    rw [← dB_dat, hM2]
    rw [hM2l'] at hi
    match i, hi with
    | 0, _ => simp [dB]
  have hss := sameShares_true (some ⟨gm, 0, none⟩) (some ⟨W13.heap.size + 1, 0, none⟩) M2 _ 1 1 1 1 hM2l'.symm rfl (by rw [hM2l']; omega) (by simp) hl2 (fun i hi => by
    match i, hi with
    | 0, _ => simp) Wa hM2s (sh1 rl r0) hM2
  refine hss.mono ?_
  rintro e W15 ⟨rfl, q, hq⟩
  have b15 : Below w.heap.size w W15 := by rw [hq]; exact below_drewN b14 q
  clear hq hss hl2 hM2s b14 b13 ba r0 rl hWa
  go_wp2_with fail
  go_ret
  exact ⟨rfl, b15⟩
end Go.Proofs.Ytpghdiklleedaaa
