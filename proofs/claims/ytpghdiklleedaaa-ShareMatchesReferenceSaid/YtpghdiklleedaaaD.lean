/- The contracts of the tables' products and quotients, of Inv, of Same. -/
import Derived.Test.YtpghdiklleedaaaA
import Derived.Test.YtpghdiklleedaaaC
set_option linter.all false
namespace Go.Proofs.Ytpghdiklleedaaa
open Go.RowKit Go.Fen Gf
set_option linter.unusedVariables false
set_option linter.unusedSimpArgs false
set_option maxHeartbeats 400000

/-- the tables lie in block g -/
def TB (w : World) (g : Nat) : Prop := Row w g 69 theTab
theorem TB.below {w w' : World} {B g : Nat} (h : TB w g) (hb : Below B w w') (hg : g < B) : TB w' g := Row.below h hb hg
theorem TB.drewN {w : World} {g : Nat} (h : TB w g) (n : Nat) : TB (w.drewN n) g := h

theorem ne_zero_nat {a : BitVec 8} (h : a ≠ 0#8) : 0 < (a.toNat : Int) := by
  have : a.toNat ≠ 0 := fun e => h (BitVec.eq_of_toNat_eq (by simpa using e))
  omega

theorem tmul_any (g : Nat) (a b : BitVec 8) (w : World) (hT : TB w g) :
    Calls Try.prog 35 #[.pointer (some ⟨g, 0, none⟩), .int .u8 a.toNat, .int .u8 b.toNat] w fun e w' => e = .returned (.int .u8 (mul a b).toNat) ∧ ∃ n, w' = w.drewN n := by
  by_cases ha : a = 0#8
  · subst ha
    rw [zero_mul]
    clear hT
    go_enter Try.func35, Try.ntmps35
    go_wp2
    go_ret
    exact ⟨rfl, 0, rfl⟩
  · by_cases hb : b = 0#8
    · subst hb
      have ha1 : ((a.toNat : Int) == 0) = false := by have := ne_zero_nat ha; simp; omega
      have ha2 : ¬ ((a.toNat : Int) = 0) := by have := ne_zero_nat ha; omega
      rw [mul_zero]
      clear hT
      go_enter Try.func35, Try.ntmps35
      go_wp2
      go_ret
      exact ⟨rfl, 0, rfl⟩
    · have ha1 : ((a.toNat : Int) == 0) = false := by have := ne_zero_nat ha; simp; omega
      have ha2 : ¬ ((a.toNat : Int) = 0) := by have := ne_zero_nat ha; omega
      have hb1 : ((b.toNat : Int) == 0) = false := by have := ne_zero_nat hb; simp; omega
      have hb2 : ¬ ((b.toNat : Int) = 0) := by have := ne_zero_nat hb; omega
      have ca := (hT.cell (510 + a.toNat)).trans (tab_log a ha)
      have cb := (hT.cell (510 + b.toNat)).trans (tab_log b hb)
      have la := lg_lt a
      have lb := lg_lt b
      have cc := (hT.cell (lg a + lg b)).trans (tab_exp _ (by omega))
      rw [mul_lg a b ha hb] at cc
      generalize mul a b = c at *
      generalize lg a = x at *
      generalize lg b = y at *
      have xa := a.isLt
      have xb := b.isLt
      have ai : (a.toNat : Int) < 256 := by omega
      have bi : (b.toNat : Int) < 256 := by omega
      have xyi : (x : Int) + (y : Int) < 510 := by omega
      clear hT ha hb
      go_enter Try.func35, Try.ntmps35
      go_wp2
      go_quiet (fail)
      go_wp2
      go_ret
      exact ⟨rfl, nq, rfl⟩
theorem tdiv_any (g : Nat) (a b : BitVec 8) (w : World) (hT : TB w g) :
    Calls Try.prog 29 #[.pointer (some ⟨g, 0, none⟩), .int .u8 a.toNat, .int .u8 b.toNat] w fun e w' => e = .returned (.int .u8 (mul a (inv b)).toNat) ∧ ∃ n, w' = w.drewN n := by
  by_cases ha : a = 0#8
  · subst ha
    rw [zero_mul]
    clear hT
    go_enter Try.func29, Try.ntmps29
    go_wp2
    go_ret
    exact ⟨rfl, 0, rfl⟩
  · by_cases hb : b = 0#8
    · subst hb
      have ha1 : ((a.toNat : Int) == 0) = false := by have := ne_zero_nat ha; simp; omega
      have ha2 : ¬ ((a.toNat : Int) = 0) := by have := ne_zero_nat ha; omega
      rw [inv_zero, mul_zero]
      clear hT
      go_enter Try.func29, Try.ntmps29
      go_wp2
      go_ret
      exact ⟨rfl, 0, rfl⟩
    · have ha1 : ((a.toNat : Int) == 0) = false := by have := ne_zero_nat ha; simp; omega
      have ha2 : ¬ ((a.toNat : Int) = 0) := by have := ne_zero_nat ha; omega
      have hb1 : ((b.toNat : Int) == 0) = false := by have := ne_zero_nat hb; simp; omega
      have hb2 : ¬ ((b.toNat : Int) = 0) := by have := ne_zero_nat hb; omega
      have ca := (hT.cell (510 + a.toNat)).trans (tab_log a ha)
      have cb := (hT.cell (510 + b.toNat)).trans (tab_log b hb)
      have la := lg_lt a
      have lb := lg_lt b
      have cc := (hT.cell (lg a + 255 - lg b)).trans (tab_exp _ (by omega))
      rw [div_lg a b ha hb] at cc
      generalize mul a (inv b) = c at *
      have es : (lg a : Int) + 255 - (lg b : Int) = ((lg a + 255 - lg b : Nat) : Int) := by omega
      have hz : lg a + 255 - lg b < 510 := by omega
      have hzi : ((lg a + 255 - lg b : Nat) : Int) < 510 := by omega
      generalize hz' : lg a + 255 - lg b = z at *
      clear hz'
      generalize lg a = x at *
      generalize lg b = y at *
      have xa := a.isLt
      have xb := b.isLt
      have ai : (a.toNat : Int) < 256 := by omega
      have bi : (b.toNat : Int) < 256 := by omega
      clear hT ha hb
      go_enter Try.func29, Try.ntmps29
      go_wp2
      go_quiet (fail)
      go_wp2
      go_ret
      exact ⟨rfl, nq, rfl⟩

theorem inv_any (a : BitVec 8) (w : World) : Calls Try.prog 14 #[.int .u8 a.toNat] w fun e w' => e = .returned (.int .u8 (inv a).toNat) ∧ Below w.heap.size w w' := by
  have hn := Lib.hid (newTables_any w)
  have hm : mul 1#8 (inv a) = inv a := one_mul _
  have H : Hid (∀ g W, TB W g → Calls Try.prog 29 #[.pointer (some ⟨g, 0, none⟩), .int .u8 1, .int .u8 a.toNat] W fun e w' => e = .returned (.int .u8 (inv a).toNat) ∧ ∃ n, w' = W.drewN n) := Lib.hid (fun g W hT => by have := tdiv_any g 1#8 a W hT; rw [hm] at this; exact this)
  clear hm
  go_enter Try.func14, Try.ntmps14
  go_wp2_with fail
  refine hn.out.mono ?_
  rintro e w1 ⟨rfl, r1, hb⟩
  go_wp2_with fail
  refine (H.out _ w1 r1).mono ?_
  rintro e w2 ⟨rfl, nq, rfl⟩
  go_wp2_with fail
  go_ret
  exact ⟨rfl, below_drewN hb _⟩

theorem same_any (a1 a2 : Option Addr) (l1 l2 : List (BitVec 8)) (c1 c2 : Nat) (w : World) (h1 : l1.length ≤ 1000000) (h2 : l2.length ≤ 1000000) (B1 : Bs w a1 l1) (B2 : Bs w a2 l2) :
    Calls Try.prog 23 #[.slice a1 l1.length c1, .slice a2 l2.length c2] w fun e w' => e = .returned (.bool (decide (l1 = l2))) ∧ ∃ n, w' = w.drewN n := by
  by_cases hlen : l1.length = l2.length
  · have hfin : Hid ((∀ i, i < l1.length → l1.getD i 0#8 = l2.getD i 0#8) → decide (l1 = l2) = true) := Lib.hid fun h => decide_eq_true (List.ext_getElem hlen fun i ha hb => by
      have := h i ha
      simp only [List.getD, ha, hb, List.getElem?_eq_getElem, Option.getD_some] at this
      exact this)
    have hfin2 : Hid (∀ i, i < l1.length → l1.getD i 0#8 ≠ l2.getD i 0#8 → decide (l1 = l2) = false) := Lib.hid fun i hi h => decide_eq_false (fun e => h (by rw [e]))
    generalize decide (l1 = l2) = res at *
    obtain ⟨n, hn⟩ : ∃ n, n = l1.length := ⟨_, rfl⟩
    have hn2 : n = l2.length := by omega
    have N1 := Lib.hid hn
    have N2 := Lib.hid hn2
    rw [← hn2, ← hn]
    rw [← hn] at h1
    have HB1 := Lib.hid B1
    have HB2 := Lib.hid B2
    clear B1 B2 hn hn2 hlen h2
    go_enter Try.func23, Try.ntmps23
    go_wp2_with fail
    go_loopw [5] (fun i wr => ∃ k : Nat, k ≤ n ∧ i = .int .i64 k ∧ (∀ j, j < k → l1.getD j 0#8 = l2.getD j 0#8) ∧ ∃ q, wr = w.drewN q) (fun i _ => n - (intOf i).toNat)
    case atStart => exact ⟨0, by omega, rfl, fun j hj => by omega, 0, rfl⟩
    case round =>
      obtain ⟨k, hk, rfl, hall, q, rfl⟩ := hrel
      by_cases hkn : k < n
      · obtain ⟨g1, o1, e1, k1⟩ : ∃ g o, a1 = some ⟨g, o, none⟩ ∧ w.cell? ⟨g, o + k, none⟩ = some (.int .u8 (l1.getD k 0#8).toNat) := by
          rcases HB1.out with h | ⟨g, o, e, hc⟩
          · have := N1.out; rw [h] at this; simp at this; omega
          · exact ⟨g, o, e, hc k (by rw [← N1.out]; exact hkn)⟩
        obtain ⟨g2, o2, e2, k2⟩ : ∃ g o, a2 = some ⟨g, o, none⟩ ∧ w.cell? ⟨g, o + k, none⟩ = some (.int .u8 (l2.getD k 0#8).toNat) := by
          rcases HB2.out with h | ⟨g, o, e, hc⟩
          · have := N2.out; rw [h] at this; simp at this; omega
          · exact ⟨g, o, e, hc k (by rw [← N2.out]; exact hkn)⟩
        subst e1
        subst e2
        have ki : (k : Int) < (n : Int) := by omega
        have hA := Lib.hid hall
        have hF2 : Hid (l1.getD k 0#8 ≠ l2.getD k 0#8 → res = false) := Lib.hid (hfin2.out k (by rw [← N1.out]; exact hkn))
        have hS : Hid (l1.getD k 0#8 = l2.getD k 0#8 → ∀ j, j < k + 1 → l1.getD j 0#8 = l2.getD j 0#8) := Lib.hid fun e j hj => by
          by_cases h : j < k
          · exact hA.out j h
          · rw [show j = k by omega]; exact e
        generalize l1.getD k 0#8 = x at *
        generalize l2.getD k 0#8 = y at *
        clear hall
        by_cases hxy : x = y
        · subst hxy
          go_wp2_with fail
          go_quiet (fail)
          go_wp2_with fail
          go_roundw
          case rel => exact ⟨k + 1, by omega, by go_num, by first | exact hS.out rfl | exact hS.out trivial, q + nq, by first | rfl | rw [World.drewN_drewN]⟩
          case measure => simp [intOf] <;> omega
        · have hne : ¬ ((x.toNat : Int) = (y.toNat : Int)) := fun h => hxy (BitVec.eq_of_toNat_eq (by omega))
          have hne2 : ((x.toNat : Int) == (y.toNat : Int)) = false := by simpa using hne
          have hr := hF2.out hxy
          subst hr
          go_wp2_with fail
          go_quiet (fail)
          go_wp2_with fail
          go_ret
          exact ⟨rfl, q + nq, by first | rfl | rw [World.drewN_drewN]⟩
      · have hr : res = true := hfin.out fun i hi => hall i (by rw [← N1.out] at hi; omega)
        subst hr
        go_wp2_with fail
        go_ret
        exact ⟨rfl, q, rfl⟩
  · have hr : decide (l1 = l2) = false := decide_eq_false (fun e => hlen (by rw [e]))
    rw [hr]
    have hne : ¬ ((l1.length : Int) = (l2.length : Int)) := by omega
    have hne2 : ((l1.length : Int) == (l2.length : Int)) = false := by simpa using hne
    clear B1 B2 hr
    generalize l1.length = n1 at *
    generalize l2.length = n2 at *
    go_enter Try.func23, Try.ntmps23
    go_wp2
    go_ret
    exact ⟨rfl, 0, rfl⟩
end Go.Proofs.Ytpghdiklleedaaa
