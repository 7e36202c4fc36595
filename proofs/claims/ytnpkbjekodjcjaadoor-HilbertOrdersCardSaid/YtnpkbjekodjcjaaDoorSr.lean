/- The contracts of swapping two ranges and of rotating. -/
import Derived.Test.YtnpkbjekodjcjaaDoorO
import Derived.Test.YtnpkbjekodjcjaaDoorSm
set_option linter.all false
namespace Go.Proofs.YtnpkbjekodjcjaaDoor
open Go.RowKit Go.Fen Hil
set_option linter.unusedVariables false
set_option maxHeartbeats 4000000

theorem swapRange_any (gd t n c a b k bk : Nat) (D : List Nat) (w : World) (hR : Row w gd t (nc D)) (hn : n = D.length) (hN : n ≤ 1000000) (hab : a + k ≤ b) (hb : b + k ≤ n) :
    Calls Tryd.prog 55 #[.slice (some ⟨gd, 0, none⟩) n c, .int .i64 a, .int .i64 b, .int .i64 k, .func (.func 34) #[] #[.pointer (some ⟨bk, 0, none⟩)]] w fun e w' =>
      e = .returned (.tuple #[]) ∧ ∃ E, Row w' gd t (nc E) ∧ SwapR D E a b k ∧ w.grownBy w' (some gd) := by
  have HR := Lib.hid hR
  have HN := Lib.hid hn
  have a6 : a ≤ 1000000 := by omega
  have b6 : b ≤ 1000000 := by omega
  have k6 : k ≤ 1000000 := by omega
  clear hR hn
  go_enter Tryd.func55, Tryd.ntmps55
  go_wp2_with fail
  go_loopw [10] (fun iv wr => ∃ (i : Nat) (E : List Nat), i ≤ k ∧ iv = .int .i64 i ∧ Row wr gd t (nc E) ∧ SwapR D E a b i ∧ w.grownBy wr (some gd)) (fun iv _ => k - (intOf iv).toNat)
  case atStart => exact ⟨0, D, Nat.zero_le _, rfl, HR.out, SwapR.zero _ _ _, grown_refl _ _⟩
  case round =>
    obtain ⟨i, E, hi, rfl, hRE, hS, hg⟩ := hrel
    have lE : E.length = n := hS.1.trans HN.out.symm
    by_cases hik : i < k
    · have ii : (i : Int) < (k : Int) := by omega
      obtain ⟨p, hp⟩ : ∃ p, p = a + i := ⟨_, rfl⟩
      obtain ⟨q, hq⟩ : ∃ q, q = b + i := ⟨_, rfl⟩
      have ep : (a : Int) + (i : Int) = (p : Int) := by omega
      have eq : (b : Int) + (i : Int) = (q : Int) := by omega
      have pn : (p : Int) < (n : Int) := by omega
      have qn : (q : Int) < (n : Int) := by omega
      have p6 : p ≤ 1000000 := by omega
      have q6 : q ≤ 1000000 := by omega
      have c1 := (hRE.cell p).trans (get_nc E p (by omega))
      have c2 := (hRE.cell q).trans (get_nc E q (by omega))
      obtain ⟨x, hx⟩ : ∃ x, x = at' E p := ⟨_, rfl⟩
      obtain ⟨y, hy⟩ : ∃ y, y = at' E q := ⟨_, rfl⟩
      rw [← hx] at c1
      rw [← hy] at c2
      have f1 := hRE.frozen p
      have f2 := hRE.frozen q
      have SS := Lib.hid (hS.step (n := k) hab hik (by rw [← HN.out]; exact hb))
      have EW : Hid (swp E (a + i) (b + i) = (E.set p y).set q x) := Lib.hid (by rw [swp, ← hp, ← hq, ← hx, ← hy])
      have HRE := Lib.hid hRE
      have HG := Lib.hid hg
      have HIK := Lib.hid hik
      clear hRE hS hg hik hx hy hp hq lE hi
      go_wp2_with fail
      go_region
      go_wp2_with fail
      go_roundw
      case rel =>
        refine ⟨i + 1, (E.set p y).set q x, HIK.out, by first | rfl | go_num, ?_, ?_, ?_⟩
        · have := ((HRE.out.drew.set p (.int .i64 y)).set q (.int .i64 x))
          rw [set_nc, set_nc] at this
          exact this
        · rw [← EW.out]; exact SS.out
        · exact grown_set (grown_set (grown_drew HG.out) _ _) _ _
      case measure => have := HIK.out; simp [intOf] <;> omega
    · obtain rfl : i = k := by omega
      have ii : ¬ (i : Int) < (i : Int) := by omega
      have HRE := Lib.hid hRE
      have HS := Lib.hid hS
      have HG := Lib.hid hg
      clear hRE hS hg lE
      go_wp2_with fail
      go_end0
      exact ⟨rfl, E, HRE.out, HS.out, HG.out⟩

theorem rotate_any (gd t n c a m b bk : Nat) (D : List Nat) (w : World) (hR : Row w gd t (nc D)) (hn : n = D.length) (hN : n ≤ 1000000) (ham : a < m) (hmb : m < b) (hb : b ≤ n) :
    Calls Tryd.prog 54 #[.slice (some ⟨gd, 0, none⟩) n c, .int .i64 a, .int .i64 m, .int .i64 b, .func (.func 34) #[] #[.pointer (some ⟨bk, 0, none⟩)]] w fun e w' =>
      e = .returned (.tuple #[]) ∧ ∃ E, Row w' gd t (nc E) ∧ Rot D E a m b ∧ w.grownBy w' (some gd) := by
  have HR := Lib.hid hR
  have HN := Lib.hid hn
  have a6 : a ≤ 1000000 := by omega
  have b6 : b ≤ 1000000 := by omega
  have m6 : m ≤ 1000000 := by omega
  have SW := Lib.hid (fun (E : List Nat) (p q k : Nat) (wr : World) (hRE : Row wr gd t (nc E)) (hl : n = E.length) (h1 : p + k ≤ q) (h2 : q + k ≤ n) => swapRange_any gd t n c p q k bk E wr hRE hl hN h1 h2)
  obtain ⟨i0, hi0⟩ : ∃ i0, i0 = m - a := ⟨_, rfl⟩
  obtain ⟨j0, hj0⟩ : ∃ j0, j0 = b - m := ⟨_, rfl⟩
  have ei : (m : Int) - (a : Int) = (i0 : Int) := by omega
  have ej : (b : Int) - (m : Int) = (j0 : Int) := by omega
  have HI0 := Lib.hid hi0
  have HJ0 := Lib.hid hj0
  clear hR hn hi0 hj0
  go_enter Tryd.func54, Tryd.ntmps54
  go_wp2_with fail
  go_loopw [10, 11] (fun iv jv wr => ∃ (i j : Nat) (E : List Nat), 1 ≤ i ∧ i ≤ m - a ∧ 1 ≤ j ∧ j ≤ b - m ∧ iv = .int .i64 i ∧ jv = .int .i64 j ∧ Row wr gd t (nc E) ∧ E.length = D.length ∧ (∀ k, rt D a m b k = rt E (m - i) m (m + j) k) ∧ w.grownBy wr (some gd)) (fun iv jv _ => (intOf iv).toNat + (intOf jv).toNat)
  case atStart =>
    have := HI0.out
    have := HJ0.out
    exact ⟨i0, j0, D, by omega, by omega, by omega, by omega, rfl, rfl, HR.out, rfl, fun k => by rw [show m - i0 = a by omega, show m + j0 = b by omega], grown_refl _ _⟩
  case round =>
    obtain ⟨i, j, E, i1, i2, j1, j2, rfl, rfl, hRE, lE, hrt, hg⟩ := hrel
    clear ei ej
    have hN2 := HN.out
    have i6 : i ≤ 1000000 := by omega
    have j6 : j ≤ 1000000 := by omega
    obtain ⟨mi, hmi⟩ : ∃ p, p = m - i := ⟨_, rfl⟩
    have emi : (m : Int) - (i : Int) = (mi : Int) := by omega
    have mi6 : mi ≤ 1000000 := by omega
    by_cases hij : i = j
    · subst hij
      have b1 : ((i : Int) != (i : Int)) = false := by simp
      have call := SW.out E mi m i wr hRE (hN2.trans lE.symm) (by omega) (by omega)
      have HC := Lib.hid call
      have RE := Lib.hid (fun F (hs : SwapR E F mi m i) => rot_end lE hrt (by rw [← hmi]; exact hs) (by omega))
      have HG := Lib.hid hg
      clear hRE hrt hg hN2 lE call hmi
      go_wp2_with fail
      refine HC.out.mono ?_
      rintro e w1 ⟨rfl, F, h1, h2, h3⟩
      have H := Lib.hid (And.intro h1 (And.intro (RE.out F h2) (grown_trans HG.out h3)))
      clear h1 h2 h3
      go_wp2_with fail
      go_end0
      exact ⟨rfl, F, H.out⟩
    · have b1 : ((i : Int) != (j : Int)) = true := by simp; omega
      by_cases hlt : j < i
      · have d1 : (j : Int) < (i : Int) := by omega
        have d2 : decide (j < i) = true := decide_eq_true hlt
        obtain ⟨ij, hijn⟩ : ∃ p, p = i - j := ⟨_, rfl⟩
        have eij : (i : Int) - (j : Int) = (ij : Int) := by omega
        have ij6 : ij ≤ 1000000 := by omega
        have call := SW.out E mi m j wr hRE (hN2.trans lE.symm) (by omega) (by omega)
        have HC := Lib.hid call
        have RE := Lib.hid (fun F (hs : SwapR E F mi m j) => rot_left hrt (by rw [← hmi]; exact hs) hlt (by omega))
        have HG := Lib.hid hg
        have HL := Lib.hid lE
        have HX := Lib.hid (And.intro hijn (And.intro hlt (And.intro i2 (And.intro j1 j2))))
        clear hRE hrt hg hN2 lE call hmi hijn hij hlt i2 j2
        go_wp2_with fail
        refine HC.out.mono ?_
        rintro e w1 ⟨rfl, F, h1, h2, h3⟩
        have H := Lib.hid (And.intro h1 (And.intro (h2.1.trans HL.out) (And.intro (RE.out F h2) (grown_trans HG.out h3))))
        clear h1 h2 h3
        go_wp2_with fail
        go_roundw
        case rel =>
          obtain ⟨x1, x2, x3, x4, x5⟩ := HX.out
          obtain ⟨y1, y2, y3, y4⟩ := H.out
          exact ⟨ij, j, F, by omega, by omega, x4, x5, by first | rfl | go_num, rfl, y1, y2, by rw [x1]; exact y3, y4⟩
        case measure => have := HX.out; simp [intOf] <;> omega
      · have d1 : ¬ (j : Int) < (i : Int) := by omega
        have d2 : decide (j < i) = false := decide_eq_false hlt
        obtain ⟨ji, hjin⟩ : ∃ p, p = j - i := ⟨_, rfl⟩
        have eji : (j : Int) - (i : Int) = (ji : Int) := by omega
        have ji6 : ji ≤ 1000000 := by omega
        obtain ⟨mj, hmj⟩ : ∃ p, p = m + j := ⟨_, rfl⟩
        have emj : (m : Int) + (j : Int) = (mj : Int) := by omega
        have mj6 : mj ≤ 1000000 := by omega
        obtain ⟨mji, hmji⟩ : ∃ p, p = m + j - i := ⟨_, rfl⟩
        have emji : (mj : Int) - (i : Int) = (mji : Int) := by omega
        have mji6 : mji ≤ 1000000 := by omega
        have call := SW.out E mi mji i wr hRE (hN2.trans lE.symm) (by omega) (by omega)
        have HC := Lib.hid call
        have RE := Lib.hid (fun F (hs : SwapR E F mi mji i) => rot_right hrt (by rw [← hmi, ← hmji]; exact hs) (by omega) (by omega))
        have HG := Lib.hid hg
        have HL := Lib.hid lE
        have HX := Lib.hid (And.intro hjin (And.intro (show i < j by omega) (And.intro i2 (And.intro i1 j2))))
        clear hRE hrt hg hN2 lE call hmi hjin hij hlt i2 j2 hmj hmji
        go_wp2_with fail
        refine HC.out.mono ?_
        rintro e w1 ⟨rfl, F, h1, h2, h3⟩
        have H := Lib.hid (And.intro h1 (And.intro (h2.1.trans HL.out) (And.intro (RE.out F h2) (grown_trans HG.out h3))))
        clear h1 h2 h3
        go_wp2_with fail
        go_roundw
        case rel =>
          obtain ⟨x1, x2, x3, x4, x5⟩ := HX.out
          obtain ⟨y1, y2, y3, y4⟩ := H.out
          exact ⟨i, ji, F, x4, x3, by omega, by omega, rfl, by first | rfl | go_num, y1, y2, by rw [x1]; exact y3, y4⟩
        case measure => have := HX.out; simp [intOf] <;> omega
end Go.Proofs.YtnpkbjekodjcjaaDoor
