/- The contract of the reference's Weights. -/
import Derived.Test.YtpghdiklleedaaaAt
import Derived.Test.YtpghdiklleedaaaU
set_option linter.all false
namespace Go.Proofs.Ytpghdiklleedaaa
open Go.RowKit Go.Fen Gf
set_option maxHeartbeats 400000

/-- the weights -/
def wtL (D : Dat) (x : BitVec 8) : List (BitVec 8) := (List.range D.length).map fun k => wF D x k D.length
theorem length_wtL (D : Dat) (x : BitVec 8) : (wtL D x).length = D.length := by simp [wtL]
theorem wtL_take (D : Dat) (x : BitVec 8) (k : Nat) (hk : k < D.length) : (wtL D x).take (k + 1) = (wtL D x).take k ++ [wF D x k D.length] := by
  rw [List.take_succ_eq_append_getElem (by rw [length_wtL]; exact hk)]
  simp [wtL]

set_option maxRecDepth 20000 in
set_option maxHeartbeats 4000000 in
theorem weights_any (a : Option Addr) (L : List Shr) (n c : Nat) (x : BitVec 8) (en : n = L.length) (hL : n ≤ 1000000) (w : World) (hs : Shs w a L) :
    Calls Try.prog 40 #[.slice a n c, .int .u8 x.toNat] w fun e w' => ∃ v, e = .returned v ∧ BufB w.heap.size v (wtL (dat L) x) w w' := by
  obtain ⟨B, hB⟩ : ∃ B, B = w.heap.size := ⟨_, rfl⟩
  obtain ⟨W1, hW1⟩ : ∃ W, W = w.alloc (.cells #[] 5) := ⟨_, rfl⟩
  have hb0 : BufB B (.slice (some ⟨B, 0, none⟩) 0 0) ((wtL (dat L) x).take 0) w W1 := by rw [hW1]; subst hB; exact Buf.lit (Below.refl _ _) (Nat.le_refl _) #[] 0 rfl (by decide) _ rfl
  have N := Lib.hid en
  have HBB := Lib.hid hB
  have HW1 := Lib.hid hW1
  have HX : Hid (∀ k, k < n → ∃ g o, a = some ⟨g, o, none⟩ ∧ g < B ∧ w.cell? ⟨g, o + k * 2, none⟩ = some (.int .u8 (dX (dat L) k).toNat)) := Lib.hid fun k hk => by
    rcases hs.cells with h | ⟨g, o, ea, hc⟩
    · rw [h] at en; simp at en; omega
    · have hcc := (hc k (by rw [← en]; exact hk)).1
      exact ⟨g, o, ea, by rw [hB]; exact block_lt_of_cell (a := ⟨g, o + k * 2, none⟩) hcc, by rw [dX_dat]; exact hcc⟩
  have hD : Hid ((dat L).length = n) := Lib.hid (by rw [length_dat, en])
  clear en hs hB hW1
  rw [← HBB.out]
  go_enter Try.func40, Try.ntmps40
  go_wp2_with fail
  rw [← HBB.out, ← HW1.out]
  go_loopw [5, 6] (fun v ik wr => ∃ k : Nat, k ≤ n ∧ ik = .int .i64 k ∧ BufB B v ((wtL (dat L) x).take k) w wr) (fun _ ik _ => n - (intOf ik).toNat)
  case atStart => exact ⟨0, by omega, rfl, hb0⟩
  case round =>
    clear hb0
    obtain ⟨k, hk, rfl, hb⟩ := hrel
    have Hb := Lib.hid hb
    clear hb
    by_cases hkn : k < n
    · have ki : (k : Int) < (n : Int) := by omega
      have HKN := Lib.hid hkn
      have hst := Lib.hid (wtL_take (dat L) x k (by rw [hD.out]; exact hkn))
      have hml : ((wtL (dat L) x).take k).length ≤ 1000000 := by rw [List.length_take]; omega
      have HML := Lib.hid hml
      obtain ⟨g, o, ea, hg, ck0⟩ := HX.out k hkn
      subst ea
      obtain ⟨xk, exk⟩ : ∃ y, y = dX (dat L) k := ⟨_, rfl⟩
      rw [← exk] at ck0
      have EXK := Lib.hid exk
      have CK0 := Lib.hid ck0
      have HG := Lib.hid hg
      obtain ⟨wo, ewo⟩ : ∃ wo, wo = wr := ⟨_, rfl⟩
      rw [← ewo] at Hb ⊢
      clear ewo hml exk ck0 hg
      clear wr
      go_wp2_with fail
      go_loopw [7, 8, 9] (fun vo vu ij wr => ∃ j : Nat, j ≤ n ∧ ij = .int .i64 j ∧ vo = .int .u8 (ovF (dat L) x k j).toNat ∧ vu = .int .u8 (ovF (dat L) xk k j).toNat ∧ ∃ q, wr = wo.drewN q) (fun _ _ ij _ => n - (intOf ij).toNat)
      case atStart => exact ⟨0, by omega, rfl, rfl, rfl, 0, rfl⟩
      case round =>
        obtain ⟨j, hj, rfl, rfl, rfl, q, rfl⟩ := hrel
        by_cases hjn : j < n
        · have ji : (j : Int) < (n : Int) := by omega
          have HJN := Lib.hid hjn
          obtain ⟨g', o', ea', hg', cj0⟩ := HX.out j hjn
          obtain ⟨rfl, rfl⟩ : g = g' ∧ o = o' := by simpa using Option.some.inj ea'
          obtain ⟨wr, hwr⟩ : ∃ W, W = wo.drewN q := ⟨_, rfl⟩
          have hall : Below B w wr := by rw [hwr]; exact below_drewN Hb.out.2.1 q
          have ck := (hall.cell (p := ⟨g, o + k * 2, none⟩) HG.out).trans CK0.out
          have cj := (hall.cell (p := ⟨g, o + j * 2, none⟩) HG.out).trans cj0
          have so : Hid (ovF (dat L) x k (j + 1) = if j = k then ovF (dat L) x k j else mul (ovF (dat L) x k j) (x ^^^ dX (dat L) j)) := Lib.hid rfl
          have su : Hid (ovF (dat L) xk k (j + 1) = if j = k then ovF (dat L) xk k j else mul (ovF (dat L) xk k j) (xk ^^^ dX (dat L) j)) := Lib.hid rfl
          have HWR := Lib.hid hwr
          rw [← hwr]
          generalize dX (dat L) j = xj at *
          generalize ovF (dat L) x k j = ov at *
          generalize ovF (dat L) xk k j = un at *
          by_cases hjk : j = k
          · have so' := so.out
            have su' := su.out
            rw [if_pos hjk] at so' su'
            have SO := Lib.hid so'
            have SU := Lib.hid su'
            clear so su so' su' hwr hall cj0 hjn hg' ea'
            subst hjk
            go_wp2_with fail
            go_roundw
            case rel => exact ⟨j + 1, HJN.out, by go_num, by rw [SO.out], by rw [SU.out], q, HWR.out⟩
            case measure => have := HJN.out; simp [intOf] <;> omega
          · have hjki : ¬ (j : Int) = (k : Int) := by omega
            have hjk2 : ((j : Int) == (k : Int)) = false := by simp; omega
            have so' := so.out
            have su' := su.out
            rw [if_neg hjk] at so' su'
            have h1 := u8_xor_bv x xj
            have h2 := u8_xor_bv xk xj
            have m1 := fun W => rmul_any ov (x ^^^ xj) W
            have m2 := fun W => rmul_q un (xk ^^^ xj) W
            rw [← so'] at m1
            rw [← su'] at m2
            generalize ho' : ovF (dat L) x k (j + 1) = ov' at *
            generalize hu' : ovF (dat L) xk k (j + 1) = un' at *
            have HO' := Lib.hid ho'
            have HU' := Lib.hid hu'
            clear ho' hu'
            generalize x ^^^ xj = y1 at *
            generalize xk ^^^ xj = y2 at *
            have M1 := Lib.hid m1
            have M2 := Lib.hid m2
            clear so su so' su' hwr hall cj0 hjn hg' ea' m1 m2 hjk
            go_wp2_with fail
            refine (M1.out wr).mono ?_
            rintro e w1 ⟨rfl, rfl⟩
            go_wp2_with fail
            go_quiet (first | (go_at_call 13; exact Calls.quiet_of (M2.out _)))
            go_wp2_with fail
            go_roundw
            case rel => exact ⟨j + 1, HJN.out, by go_num, by rw [HO'.out], by rw [HU'.out], q + nq, by rw [HWR.out, World.drewN_drewN]⟩
            case measure => have := HJN.out; simp [intOf] <;> omega
        · have ej : j = n := by omega
          rw [ej]
          have ji : ¬ (j : Int) < (n : Int) := by omega
          have hw : wF (dat L) x k (dat L).length = mul (ovF (dat L) x k n) (inv (ovF (dat L) xk k n)) := by rw [wF_quot, hD.out, EXK.out]
          obtain ⟨z, hz⟩ : ∃ z, z = wF (dat L) x k (dat L).length := ⟨_, rfl⟩
          rw [← hz] at hst hw
          have iv := fun W => rinv_any (ovF (dat L) xk k n) W
          have mv := fun W => rmul_any (ovF (dat L) x k n) (inv (ovF (dat L) xk k n)) W
          rw [← hw] at mv
          generalize inv (ovF (dat L) xk k n) = t1 at *
          generalize ovF (dat L) xk k n = t2 at *
          generalize ovF (dat L) x k n = t3 at *
          have IV := Lib.hid iv
          have MV := Lib.hid mv
          have Hbq := Lib.hid (Hb.out.drewN q)
          clear iv mv hw hz ej hjn hj
          generalize wo.drewN q = wr at *
          go_wp2_with fail
          refine (IV.out wr).mono ?_
          rintro e w1 ⟨rfl, rfl⟩
          go_wp2_with fail
          refine (MV.out wr).mono ?_
          rintro e w1 ⟨rfl, rfl⟩
          go_wp2_with (first | ((with_reducible show wpList _ _ _ (Oper.mk _ (Op.call _) _ _ _ _ :: _) _ _); refine wpList_pushB rfl (.tmp 48) (.tmp 53) rfl B _ ((wtL (dat L) x).take k) rfl w wr _ z rfl rfl Hbq.out HML.out (fun v' w' hv' hg => ?_)))
          go_roundw
          case rel => exact ⟨k + 1, HKN.out, by go_num, by rw [hst.out]; exact hv'⟩
          case measure => have := HKN.out; simp [intOf] <;> omega
    · have ki : ¬ (k : Int) < (n : Int) := by omega
      have hb2 := Hb.out
      rw [List.take_of_length_le (by rw [length_wtL, hD.out]; omega)] at hb2
      have Hb2 := Lib.hid hb2
      clear hb2 Hb
      go_wp2_with fail
      go_ret
      exact ⟨_, rfl, Hb2.out⟩
end Go.Proofs.Ytpghdiklleedaaa
