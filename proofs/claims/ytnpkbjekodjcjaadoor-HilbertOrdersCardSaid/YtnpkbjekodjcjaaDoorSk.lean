/- The stable sort of a slice of at most 60 numbers. -/
import Derived.Test.YtnpkbjekodjcjaaDoorSy
import Derived.Test.YtnpkbjekodjcjaaDoorQ
set_option linter.all false
namespace Go.Proofs.YtnpkbjekodjcjaaDoor
open Go.RowKit Go.Fen Hil
set_option linter.unusedVariables false
set_option maxHeartbeats 4000000

/-- after j blocks of twenty -/
structure Blk (K D E : List Nat) (n j : Nat) : Prop where
  mix : Mix 0 (20 * j) D E
  srt : ∀ i, i < j → Srt K E (20 * i) (20 * i + 20)
  bl : ∀ p, p < n → ∃ q, q < n ∧ q / 20 = p / 20 ∧ at' E p = at' D q
theorem Blk.step {K D E F : List Nat} {n j : Nat} (h : Blk K D E n j) (x : Mix (20 * j) (20 * j + 20) E F) (s : Srt K F (20 * j) (20 * j + 20)) (hn : 20 * j + 20 ≤ n) : Blk K D F n (j + 1) := by
  refine ⟨(h.mix.wider (Nat.le_refl _) (by omega)).trans (x.wider (by omega) (by omega)), fun i hi => ?_, fun p hp => ?_⟩
  · by_cases e : i = j
    · rw [e]; exact s
    · exact (h.srt i (by omega)).mix_out x (.inl (by omega))
  · by_cases c : 20 * j ≤ p ∧ p < 20 * j + 20
    · obtain ⟨q, q1, q2, e⟩ := x.2.2.1 p c.1 c.2
      exact ⟨q, by omega, by omega, by rw [e]; exact h.mix.2.1 q (by omega)⟩
    · rw [x.2.1 p (by omega)]; exact h.bl p hp
theorem Blk.last {K D E F : List Nat} {n j : Nat} (h : Blk K D E n j) (hI : ∀ p q, p < q → q < n → at' D p < at' D q) (x : Mix (20 * j) n E F) (s : Srt K F (20 * j) n) (h1 : 20 * j ≤ n) (h2 : n < 20 * j + 20) : Bk 20 K D F n := by
  have bl : ∀ p, p < n → ∃ q, q < n ∧ q / 20 = p / 20 ∧ at' F p = at' D q := fun p hp => by
    by_cases c : 20 * j ≤ p
    · obtain ⟨q, q1, q2, e⟩ := x.2.2.1 p c hp
      exact ⟨q, by omega, by omega, by rw [e]; exact h.mix.2.1 q (by omega)⟩
    · rw [x.2.1 p (by omega)]; exact h.bl p hp
  refine ⟨(h.mix.wider (Nat.le_refl _) h1).trans (x.wider (by omega) (Nat.le_refl _)), fun p q pq hq e => ?_, fun p q pq hq => ?_⟩
  · by_cases c : 20 * j ≤ p
    · exact s p q c pq hq
    · rw [x.2.1 p (by omega), x.2.1 q (by omega)]
      exact h.srt (p / 20) (by omega) p q (by omega) pq (by omega)
  · obtain ⟨p', p1, p2, e1⟩ := bl p (by omega)
    obtain ⟨q', q1, q2, e2⟩ := bl q hq
    rw [e1, e2]
    exact hI p' q' (by omega) q1
/-- a pair of blocks is merged -/
theorem bk_pair {K D E F : List Nat} {n : Nat} (h : Bk 20 K D E n) (x : Mix 0 40 E F) (s : Srt K F 0 40) (h1 : 40 ≤ n) (h2 : n ≤ 60) : Bk 40 K D F n := by
  refine ⟨h.1.trans (x.wider (Nat.le_refl _) h1), fun p q pq hq e => ?_, fun p q pq hq => ?_⟩
  · by_cases c : q < 40
    · exact s p q (Nat.zero_le _) pq c
    · rw [x.2.1 p (by omega), x.2.1 q (by omega)]
      exact h.2.1 p q pq hq (by omega)
  · obtain ⟨p', _, p2, e1⟩ := x.2.2.1 p (Nat.zero_le _) (by omega)
    rw [e1, x.2.1 q (by omega)]
    exact h.2.2 p' q (by omega) hq
theorem bk_whole {K D E F : List Nat} {n s t : Nat} (h : Bk s K D E n) (x : Mix 0 n E F) (sr : Srt K F 0 n) (ht : n ≤ t) (t0 : 0 < t) : Bk t K D F n := by
  refine ⟨h.1.trans x, fun p q pq hq e => sr p q (Nat.zero_le _) pq hq, fun p q pq hq => ?_⟩
  rw [Nat.div_eq_of_lt (show q < t by omega)] at pq
  exact absurd pq (Nat.not_lt_zero _)
theorem bk_srt {K D E : List Nat} {n s : Nat} (h : Bk s K D E n) (hs : n ≤ s) : Srt K E 0 n := fun p q _ pq hq => h.2.1 p q pq hq (by rw [Nat.div_eq_of_lt (by omega), Nat.div_eq_of_lt (by omega)])

theorem stable_any (gd t n c bk gk m cm : Nat) (D K : List Nat) (w : World) (hR : Row w gd t (nc D)) (hK : KeysM w bk gk m cm K) (hn : n = D.length) (hN : n ≤ 60) (hm : m ≤ 1000000) (hbk : bk ≠ gd) (hgk : gk ≠ gd)
    (hD : ∀ i, i < D.length → at' D i < m) (hI : ∀ p q, p < q → q < n → at' D p < at' D q) :
    Calls Tryd.prog 45 #[.slice (some ⟨gd, 0, none⟩) n c, .int .i64 n, .func (.func 34) #[] #[.pointer (some ⟨bk, 0, none⟩)]] w (Sorts w gd t n D K) := by
  have INS := Lib.hid (fun (E : List Nat) (a b : Nat) (wr : World) (hg : w.grownBy wr (some gd)) (hE : Row wr gd t (nc E)) (lE : E.length = D.length) (hb : b ≤ n) (ha : a ≤ 60) (hDE : ∀ i, i < E.length → at' E i < m) (hIE : ∀ p q, a ≤ p → p < q → q < b → at' E p < at' E q) => ins_any gd t n c a b bk gk m cm E K wr hE (keys_grown hK hbk hgk hg) (by omega) (by omega) (by omega) (by omega) hm hbk hgk hDE hIE)
  have MRG := Lib.hid (fun (E : List Nat) (a mm b : Nat) (wr : World) (hg : w.grownBy wr (some gd)) (hE : Row wr gd t (nc E)) (lE : E.length = D.length) (h1 : a < mm) (h2 : mm < b) (h3 : b ≤ n) (hDE : ∀ i, i < E.length → at' E i < m) (S1 : Srt K E a mm) (S2 : Srt K E mm b) (A : Apart E a mm b) => sym_any gd t n c bk gk m cm K (by omega) hm hbk hgk b a mm b (by omega) h1 h2 h3 E wr hE (keys_grown hK hbk hgk hg) (by omega) hDE S1 S2 A)
  unfold Sorts
  have HR := Lib.hid hR
  have HD := Lib.hid hD
  have HI := Lib.hid hI
  have HN := Lib.hid hn
  clear hR hK hD hI hn
  go_enter Tryd.func45, Tryd.ntmps45
  go_wp2_with fail
  go_loopw [7, 8] (fun av bv wr => ∃ (j a b : Nat) (E : List Nat), 20 * j ≤ n ∧ a = 20 * j ∧ b = 20 * j + 20 ∧ av = .int .i64 a ∧ bv = .int .i64 b ∧ Row wr gd t (nc E) ∧ Blk K D E n j ∧ w.grownBy wr (some gd)) (fun av _ _ => n - (intOf av).toNat)
  case atStart => exact ⟨0, 0, 20, D, Nat.zero_le _, rfl, rfl, rfl, rfl, HR.out, ⟨Mix.refl _ _ _, fun i hi => by omega, fun p hp => ⟨p, hp, rfl, rfl⟩⟩, grown_refl _ _⟩
  case round =>
    obtain ⟨j, a, b, E, hj, ha, hb, rfl, rfl, hE, hB, hg⟩ := hrel
    have lE := hB.mix.1
    have ab : (a : Int) + 20 = (b : Int) := by omega
    have hDE : ∀ i, i < E.length → at' E i < m := hB.mix.bound (by have := HN.out; omega) HD.out
    have hIE : ∀ p q, a ≤ p → p < q → q < n → at' E p < at' E q := fun p q h1 h2 h3 => by
      rw [hB.mix.2.1 p (by omega), hB.mix.2.1 q (by omega)]; exact HI.out p q h2 h3
    by_cases hbn : b ≤ n
    · have bi : (b : Int) ≤ (n : Int) := by omega
      have call := INS.out E a b wr hg hE lE hbn (by omega) hDE (fun p q h1 h2 h3 => hIE p q h1 h2 (by omega))
      have HC := Lib.hid call
      have HB := Lib.hid hB
      have HG := Lib.hid hg
      have HAB := Lib.hid (And.intro ha (And.intro hb (And.intro hj hbn)))
      obtain ⟨b2, hb2⟩ : ∃ b2, b2 = b + 20 := ⟨_, rfl⟩
      have eb2 : (b : Int) + 20 = (b2 : Int) := by omega
      have b26 : b2 ≤ 1000000 := by omega
      have HB2 := Lib.hid hb2
      clear call hB hg hE hDE hIE lE ha hb hj hbn hb2
      go_wp2_with fail
      refine HC.out.mono ?_
      rintro e w1 ⟨rfl, F, h1, h2, h3, h4⟩
      have H := Lib.hid (And.intro h1 (And.intro h2 (And.intro h3 (grown_trans HG.out h4))))
      clear h1 h2 h3 h4
      go_wp2_with fail
      go_roundw
      case rel =>
        obtain ⟨x1, x2, x3, x4⟩ := HAB.out
        obtain ⟨y1, y2, y3, y4⟩ := H.out
        have x5 := HB2.out
        exact ⟨j + 1, b, b2, F, by omega, by omega, by omega, rfl, by first | rfl | go_num, y1, HB.out.step (by rw [← x2, ← x1]; exact y2) (by rw [← x2, ← x1]; exact y3) (by omega), y4⟩
      case measure => have := HAB.out; simp [intOf] <;> omega
    · have bi : ¬ (b : Int) ≤ (n : Int) := by omega
      have db : decide (b ≤ n) = false := decide_eq_false hbn
      have call := INS.out E a n wr hg hE lE (Nat.le_refl _) (by omega) hDE hIE
      have HC := Lib.hid call
      have HB := Lib.hid hB
      have HG := Lib.hid hg
      have HAB := Lib.hid (And.intro ha (And.intro hb (And.intro hj hbn)))
      clear call hB hg hE hDE hIE lE ha hb hj hbn
      go_wp2_with fail
      refine HC.out.mono ?_
      rintro e w1 ⟨rfl, F, h1, h2, h3, h4⟩
      have hBk : Bk 20 K D F n := by
        obtain ⟨x1, x2, x3, x4⟩ := HAB.out
        exact HB.out.last HI.out (by rw [← x1]; exact h2) (by rw [← x1]; exact h3) x3 (by omega)
      have H := Lib.hid (And.intro h1 (And.intro hBk (grown_trans HG.out h4)))
      clear h1 h2 h3 h4 hBk
      go_wp2_with fail
      go_loopw [6, 7, 8, 9] (fun sv _ _ _ wx => ∃ (s : Nat) (E : List Nat), (s = 20 ∨ s = 40 ∨ s = 80) ∧ sv = .int .i64 s ∧ Row wx gd t (nc E) ∧ Bk s K D E n ∧ w.grownBy wx (some gd)) (fun sv _ _ _ _ => 80 - (intOf sv).toNat)
      case atStart => exact ⟨20, F, .inl rfl, rfl, H.out.1, H.out.2.1, H.out.2.2⟩
      case round =>
        clear db bi ab
        obtain ⟨s, E2, hs, rfl, hE, hB, hg⟩ := hrel
        have lE := hB.1.1
        have hDE : ∀ i, i < E2.length → at' E2 i < m := hB.1.bound (by have := HN.out; omega) HD.out
        by_cases hsn : s < n
        · have si : (s : Int) < (n : Int) := by omega
          rcases hs with rfl | rfl | rfl
          · by_cases h40 : 40 ≤ n
            · have i1 : (40 : Int) ≤ (n : Int) := by omega
              have i2 : ¬ (80 : Int) ≤ (n : Int) := by omega
              have i3 : ¬ (60 : Int) < (n : Int) := by omega
              have d1 : decide (40 ≤ n) = true := decide_eq_true h40
              have d2 : decide (80 ≤ n) = false := decide_eq_false (by omega)
              have d3 : decide (60 < n) = false := decide_eq_false (by omega)
              have call := MRG.out E2 0 20 40 wr hg hE lE (by decide) (by decide) h40 hDE (fun p q _ pq hq => hB.2.1 p q pq (by omega) (by omega)) (fun p q hp pq hq => hB.2.1 p q pq (by omega) (by omega)) (fun p q _ h1 h2 h3 => hB.2.2 p q (by omega) (by omega))
              have HC := Lib.hid call
              have HB := Lib.hid hB
              have HG := Lib.hid hg
              have H40 := Lib.hid h40
              clear call hB hg hE hDE lE hsn h40
              go_wp2_with fail
              go_loopw [7, 8] (fun av bv wz => (av = .int .i64 0 ∧ bv = .int .i64 40 ∧ wz = wr) ∨ (av = .int .i64 40 ∧ bv = .int .i64 80 ∧ ∃ F : List Nat, Row wz gd t (nc F) ∧ Bk 40 K D F n ∧ w.grownBy wz (some gd))) (fun av _ _ => 40 - (intOf av).toNat)
              case atStart => exact .inl ⟨rfl, rfl, rfl⟩
              case round =>
                rcases hrel with ⟨rfl, rfl, rfl⟩ | ⟨rfl, rfl, F2, z1, z2, z3⟩
                · go_wp2_with fail
                  refine HC.out.mono ?_
                  rintro e w2 ⟨rfl, G, h1, h2, h3, h4⟩
                  have HH := Lib.hid (And.intro h1 (And.intro (bk_pair HB.out h2 h3 H40.out hN) (grown_trans HG.out h4)))
                  clear h1 h2 h3 h4
                  go_wp2_with fail
                  go_roundw
                  case rel => exact .inr ⟨rfl, rfl, G, HH.out⟩
                  case measure => simp [intOf]
                · have HZ := Lib.hid (And.intro z1 (And.intro z2 z3))
                  clear z1 z2 z3
                  go_wp2_with fail
                  go_roundw
                  case rel => exact ⟨40, F2, .inr (.inl rfl), rfl, HZ.out⟩
                  case measure => simp [intOf]
            · have i1 : ¬ (40 : Int) ≤ (n : Int) := by omega
              have d1 : decide (40 ≤ n) = false := decide_eq_false h40
              have call := MRG.out E2 0 20 n wr hg hE lE (by decide) hsn (Nat.le_refl _) hDE (fun p q _ pq hq => hB.2.1 p q pq (by omega) (by omega)) (fun p q hp pq hq => hB.2.1 p q pq (by omega) (by omega)) (fun p q _ h1 h2 h3 => hB.2.2 p q (by omega) (by omega))
              have HC := Lib.hid call
              have HB := Lib.hid hB
              have HG := Lib.hid hg
              have H40 := Lib.hid h40
              clear call hB hg hE hDE lE hsn h40
              go_wp2_with fail
              go_loopw [7, 8] (fun av bv wz => av = .int .i64 0 ∧ bv = .int .i64 40 ∧ wz = wr) (fun av _ _ => 0)
              case atStart => exact ⟨rfl, rfl, rfl⟩
              case round =>
                obtain ⟨rfl, rfl, rfl⟩ := hrel
                go_wp2_with fail
                refine HC.out.mono ?_
                rintro e w2 ⟨rfl, G, h1, h2, h3, h4⟩
                have HH := Lib.hid (And.intro h1 (And.intro (bk_whole HB.out (t := 40) h2 h3 (by have := H40.out; omega) (by decide)) (grown_trans HG.out h4)))
                clear h1 h2 h3 h4
                go_wp2_with fail
                go_roundw
                case rel => exact ⟨40, G, .inr (.inl rfl), rfl, HH.out⟩
                case measure => simp [intOf]
          · have i2 : ¬ (80 : Int) ≤ (n : Int) := by omega
            have d2 : decide (80 ≤ n) = false := decide_eq_false (by omega)
            have call := MRG.out E2 0 40 n wr hg hE lE (by decide) hsn (Nat.le_refl _) hDE (fun p q _ pq hq => hB.2.1 p q pq (by omega) (by omega)) (fun p q hp pq hq => hB.2.1 p q pq (by omega) (by omega)) (fun p q _ h1 h2 h3 => hB.2.2 p q (by omega) (by omega))
            have HC := Lib.hid call
            have HB := Lib.hid hB
            have HG := Lib.hid hg
            clear call hB hg hE hDE lE hsn
            go_wp2_with fail
            go_loopw [7, 8] (fun av bv wz => av = .int .i64 0 ∧ bv = .int .i64 80 ∧ wz = wr) (fun av _ _ => 0)
            case atStart => exact ⟨rfl, rfl, rfl⟩
            case round =>
              obtain ⟨rfl, rfl, rfl⟩ := hrel
              go_wp2_with fail
              refine HC.out.mono ?_
              rintro e w2 ⟨rfl, G, h1, h2, h3, h4⟩
              have HH := Lib.hid (And.intro h1 (And.intro (bk_whole HB.out (t := 80) h2 h3 (by omega) (by decide)) (grown_trans HG.out h4)))
              clear h1 h2 h3 h4
              go_wp2_with fail
              go_roundw
              case rel => exact ⟨80, G, .inr (.inr rfl), rfl, HH.out⟩
              case measure => simp [intOf]
          · omega
        · have si : ¬ (s : Int) < (n : Int) := by omega
          have ds : decide (s < n) = false := decide_eq_false hsn
          have HF := Lib.hid (And.intro hE (And.intro hB.1 (And.intro (bk_srt hB (by omega)) hg)))
          clear hE hB hg lE hDE hs hsn
          go_wp2_with fail
          go_end0
          exact ⟨rfl, E2, HF.out⟩

theorem sort_any (n : Nat) (hN : n ≤ 60) : SortOk n := by
  intro gd t c bk gk m cm D K w hR hK hn hm hbk hgk hD hI
  have ST := Lib.hid (stable_any gd t n c bk gk m cm D K w hR hK hn hN hm hbk hgk hD hI)
  clear hR hK hD hI hn
  go_enter Tryd.func33, Tryd.ntmps33
  go_wp2_with fail
  refine ST.out.mono ?_
  rintro e w1 ⟨rfl, h⟩
  have H := Lib.hid h
  clear h
  go_wp2_with fail
  go_end0
  exact ⟨rfl, H.out⟩
end Go.Proofs.YtnpkbjekodjcjaaDoor
