/- The contract of the reference's At; stores into owned bytes. -/
import Derived.Test.YtpghdiklleedaaaCp
set_option linter.all false
namespace Go.Proofs.Ytpghdiklleedaaa
open Go.RowKit Go.Fen Gf
set_option maxHeartbeats 400000

theorem rmul_q (a b : BitVec 8) (w : World) : Calls Try.prog 13 #[.int .u8 a.toNat, .int .u8 b.toNat] w fun e w' => e = .returned (.int .u8 (mul a b).toNat) ∧ ∃ n, w' = w.drewN n :=
  (rmul_any a b w).mono fun e w' ⟨he, hw⟩ => ⟨he, 0, hw.symm⟩

set_option maxHeartbeats 1000000 in
theorem at_any (a : Option Addr) (l : List (BitVec 8)) (n c : Nat) (x : BitVec 8) (w : World) (en : n = l.length) (hn : n ≤ 1000000) (B1 : Bs w a l) :
    Calls Try.prog 31 #[.slice a n c, .int .u8 x.toNat] w fun e w' => e = .returned (.int .u8 (ev l x).toNat) ∧ ∃ q, w' = w.drewN q := by
  have EN := Lib.hid en
  have HB := Lib.hid B1
  have hfin : Hid (ev l x = ev (l.drop (n - n)) x) := Lib.hid (by simp)
  rw [hfin.out]
  have h0 : Hid (ev (l.drop (n - 0)) x = 0#8) := Lib.hid (by rw [Nat.sub_zero, en, List.drop_length]; rfl)
  clear B1 en
  go_enter Try.func31, Try.ntmps31
  go_wp2_with fail
  go_loopw [5, 6] (fun vo vi wr => ∃ t : Nat, t ≤ n ∧ vi = .int .i64 ((n : Int) - 1 - t) ∧ vo = .int .u8 (ev (l.drop (n - t)) x).toNat ∧ ∃ q, wr = w.drewN q) (fun _ vi _ => (intOf vi + 1).toNat)
  case atStart => exact ⟨0, by omega, by simp, by rw [h0.out]; rfl, 0, rfl⟩
  case round =>
    obtain ⟨t, ht, rfl, rfl, q, rfl⟩ := hrel
    by_cases htn : t < n
    · obtain ⟨s, hs⟩ : ∃ s, s = n - 1 - t := ⟨_, rfl⟩
      have hsi : (n : Int) - 1 - t = (s : Int) := by omega
      have hsn : s < n := by omega
      have hstep := ev_drop l x s (by rw [← EN.out]; exact hsn)
      have e1 : n - (t + 1) = s := by omega
      have e2 : n - t = s + 1 := by omega
      obtain ⟨g, o, ea, kc⟩ : ∃ g o, a = some ⟨g, o, none⟩ ∧ w.cell? ⟨g, o + s, none⟩ = some (.int .u8 (l.getD s 0#8).toNat) := by
        rcases HB.out with h | ⟨g, o, e, hc⟩
        · have := EN.out; rw [h] at this; simp at this; omega
        · exact ⟨g, o, e, hc s (by rw [← EN.out]; exact hsn)⟩
      subst ea
      have HE1 := Lib.hid e1
      rw [hsi, e2]
      have hxor := u8_xor_bv (mul (ev (l.drop (s + 1)) x) x) (l.getD s 0#8)
      rw [← hstep] at hxor
      have hm := fun W => rmul_q (ev (l.drop (s + 1)) x) x W
      generalize hO : ev (l.drop s) x = o' at *
      have HO := Lib.hid hO
      generalize mul (ev (l.drop (s + 1)) x) x = m at *
      generalize ev (l.drop (s + 1)) x = u at *
      generalize l.getD s 0#8 = y at *
      have HM := Lib.hid hm
      have si : (s : Int) < (n : Int) := by omega
      have s0 : (0 : Int) ≤ (s : Int) := by omega
      have hnext : (n : Int) - 1 - ((t + 1 : Nat) : Int) = (s : Int) - 1 := by omega
      have HX := Lib.hid hnext
      obtain ⟨wr, hwr⟩ : ∃ W, W = w.drewN q := ⟨_, rfl⟩
      have kc' : wr.cell? ⟨g, o + s, none⟩ = some (.int .u8 y.toNat) := by rw [hwr]; exact kc
      have HWR := Lib.hid hwr
      rw [← hwr]
      clear hm hO hstep hs hsi e1 e2 hnext kc hwr
      go_wp2_with fail
      go_quiet (first | (go_at_call 13; exact Calls.quiet_of (HM.out _)))
      go_wp2_with fail
      go_roundw
      case rel => exact ⟨t + 1, by omega, by rw [HX.out], by rw [HE1.out, HO.out], q + nq, by rw [HWR.out, World.drewN_drewN]⟩
      case measure => simp [intOf] <;> omega
    · have e : t = n := by omega
      rw [e]
      rw [show (n : Int) - 1 - (n : Int) = -1 by omega]
      clear hfin
      generalize hO : ev (l.drop (n - n)) x = o at *
      have HO := Lib.hid hO
      clear hO e
      go_wp2_with fail
      go_ret
      exact ⟨by rw [HO.out]; rfl, q, rfl⟩
end Go.Proofs.Ytpghdiklleedaaa
