/- The contract of SameShares. -/
import Derived.Test.YtpghdiklleedaaaK
set_option linter.all false
namespace Go.Proofs.Ytpghdiklleedaaa
open Go.RowKit Go.Fen Gf
set_option linter.unusedVariables false
set_option maxHeartbeats 400000

theorem quiet_off {P : Program} {f : FuncId} {args : Array Value} {w : World} {q n : Nat} {v : Value} (h : Calls P f args (w.drewN (q + n)) fun e w' => e = .returned v ∧ ∃ m, w' = (w.drewN (q + n)).drewN m) :
    Calls P f args (w.drewN (q + n)) fun e w'' => e = .returned v ∧ ∃ m, w'' = w.drewN (q + m) :=
  h.mono fun _ _ ⟨he, m, hm⟩ => ⟨he, n + m, by rw [hm, World.drewN_drewN, Nat.add_assoc]⟩

set_option maxHeartbeats 2000000 in
theorem sameShares_any (a1 a2 : Option Addr) (L1 L2 : List Shr) (c1 c2 : Nat) (h1 : L1.length ≤ 1000000) (h2 : L2.length ≤ 1000000) (hb1 : ∀ i, i < L1.length → (L1.getD i zs).b.length ≤ 1000000) (hb2 : ∀ i, i < L2.length → (L2.getD i zs).b.length ≤ 1000000)
    (w : World) (s1 : Shs w a1 L1) (s2 : Shs w a2 L2) :
    Calls Try.prog 22 #[.slice a1 L1.length c1, .slice a2 L2.length c2] w fun e w' => e = .returned (.bool (decide (dat L1 = dat L2))) ∧ ∃ n, w' = w.drewN n := by
  by_cases hlen : L1.length = L2.length
  · have hfin : Hid ((∀ i, i < L1.length → dX (dat L1) i = dX (dat L2) i ∧ dB (dat L1) i = dB (dat L2) i) → decide (dat L1 = dat L2) = true) := Lib.hid fun h => decide_eq_true (List.ext_getElem (by rw [length_dat, length_dat, hlen]) fun i ha hb => by
      have ha' : i < L1.length := by rw [length_dat] at ha; exact ha
      have := h i ha'
      simp only [dX, dB, List.getD, ha, hb, List.getElem?_eq_getElem, Option.getD_some] at this
      exact Prod.ext this.1 this.2)
    have hfin2 : Hid (∀ i, i < L1.length → ¬ (dX (dat L1) i = dX (dat L2) i ∧ dB (dat L1) i = dB (dat L2) i) → decide (dat L1 = dat L2) = false) := Lib.hid fun i hi h => decide_eq_false (fun e => h (by rw [e]; exact ⟨rfl, rfl⟩))
    generalize decide (dat L1 = dat L2) = res at *
    obtain ⟨n, hn⟩ : ∃ n, n = L1.length := ⟨_, rfl⟩
    have hn2 : n = L2.length := by omega
    have N1 := Lib.hid hn
    have N2 := Lib.hid hn2
    rw [← hn2, ← hn]
    rw [← hn] at h1
    have S1 := Lib.hid s1
    have S2 := Lib.hid s2
    have HB1 := Lib.hid hb1
    have HB2 := Lib.hid hb2
    clear s1 s2 hb1 hb2 hn hn2 hlen h2
    go_enter Try.func22, Try.ntmps22
    go_wp2_with fail
    go_loopw [5] (fun i wr => ∃ k : Nat, k ≤ n ∧ i = .int .i64 k ∧ (∀ j, j < k → dX (dat L1) j = dX (dat L2) j ∧ dB (dat L1) j = dB (dat L2) j) ∧ ∃ q, wr = w.drewN q) (fun i _ => n - (intOf i).toNat)
    case atStart => exact ⟨0, by omega, rfl, fun j hj => by omega, 0, rfl⟩
    case round =>
      obtain ⟨k, hk, rfl, hall, q, rfl⟩ := hrel
      by_cases hkn : k < n
      · have k1 : k < L1.length := by rw [← N1.out]; exact hkn
        have k2 : k < L2.length := by rw [← N2.out]; exact hkn
        obtain ⟨g1, o1, e1, hc1⟩ : ∃ g o, a1 = some ⟨g, o, none⟩ ∧ ∀ i, i < L1.length → w.cell? ⟨g, o + i * 2, none⟩ = some (.int .u8 (L1.getD i zs).x.toNat) ∧ w.cell? ⟨g, o + i * 2 + 1, none⟩ = some (L1.getD i zs).v := by
          rcases S1.out.cells with h | h
          · rw [h] at k1; simp at k1
          · exact h
        obtain ⟨g2, o2, e2, hc2⟩ : ∃ g o, a2 = some ⟨g, o, none⟩ ∧ ∀ i, i < L2.length → w.cell? ⟨g, o + i * 2, none⟩ = some (.int .u8 (L2.getD i zs).x.toNat) ∧ w.cell? ⟨g, o + i * 2 + 1, none⟩ = some (L2.getD i zs).v := by
          rcases S2.out.cells with h | h
          · rw [h] at k2; simp at k2
          · exact h
        subst e1
        subst e2
        obtain ⟨v1, d1, ev1, hd1, hs1⟩ := S1.out.svs k k1
        obtain ⟨v2, d2, ev2, hd2, hs2⟩ := S2.out.svs k k2
        have x1 := (hc1 k k1).1
        have x2 := (hc2 k k2).1
        have y1 := (hc1 k k1).2
        have y2 := (hc2 k k2).2
        rw [ev1] at y1
        rw [ev2] at y2
        have hcall := fun W (b1 : Bs W v1 (L1.getD k zs).b) (b2 : Bs W v2 (L2.getD k zs).b) => same_any v1 v2 (L1.getD k zs).b (L2.getD k zs).b d1 d2 W (HB1.out k k1) (HB2.out k k2) b1 b2
        have hF2 : Hid (¬ ((L1.getD k zs).x = (L2.getD k zs).x ∧ (L1.getD k zs).b = (L2.getD k zs).b) → res = false) := Lib.hid (fun h => hfin2.out k k1 (by rw [dX_dat, dX_dat, dB_dat, dB_dat]; exact h))
        have hA := Lib.hid hall
        have hSt : Hid ((L1.getD k zs).x = (L2.getD k zs).x ∧ (L1.getD k zs).b = (L2.getD k zs).b → ∀ j, j < k + 1 → dX (dat L1) j = dX (dat L2) j ∧ dB (dat L1) j = dB (dat L2) j) := Lib.hid fun e j hj => by
          by_cases h : j < k
          · exact hA.out j h
          · rw [show j = k by omega, dX_dat, dX_dat, dB_dat, dB_dat]; exact e
        have ki : (k : Int) < (n : Int) := by omega
        have hbs : Hid (∀ m, Bs (w.drewN (q + m)) v1 (L1.getD k zs).b ∧ Bs (w.drewN (q + m)) v2 (L2.getD k zs).b) := Lib.hid fun m => ⟨by rcases hs1 with h | ⟨g, o, ha, hcc⟩; exact .inl h; exact .inr ⟨g, o, ha, hcc⟩, by rcases hs2 with h | ⟨g, o, ha, hcc⟩; exact .inl h; exact .inr ⟨g, o, ha, hcc⟩⟩
        generalize (L1.getD k zs).x = p1 at *
        generalize (L2.getD k zs).x = p2 at *
        generalize (L1.getD k zs).b = b1 at *
        generalize (L2.getD k zs).b = b2 at *
        clear hall hc1 hc2 ev1 ev2 hd1 hd2 hs1 hs2
        by_cases hp : p1 = p2
        · subst hp
          by_cases hb : b1 = b2
          · have hd : decide (b1 = b2) = true := decide_eq_true hb
            rw [hd] at hcall
            have HC := Lib.hid hcall
            have hstep := Lib.hid (hSt.out ⟨rfl, hb⟩)
            generalize hl1 : b1.length = m1 at *
            generalize hl2 : b2.length = m2 at *
            clear hcall hb hd hl1 hl2 hSt
            go_wp2_with fail
            go_quiet (first | (go_at_call 23; exact quiet_off (HC.out _ (hbs.out _).1 (hbs.out _).2)))
            go_wp2_with fail
            go_roundw
            case rel => exact ⟨k + 1, by omega, by go_num, hstep.out, q + nq, by first | rfl | rw [World.drewN_drewN]⟩
            case measure => simp [intOf] <;> omega
          · have hd : decide (b1 = b2) = false := decide_eq_false hb
            rw [hd] at hcall
            have HC := Lib.hid hcall
            have hr := hF2.out (fun h => hb h.2)
            subst hr
            generalize hl1 : b1.length = m1 at *
            generalize hl2 : b2.length = m2 at *
            clear hcall hb hd hl1 hl2 hSt
            go_wp2_with fail
            go_quiet (first | (go_at_call 23; exact quiet_off (HC.out _ (hbs.out _).1 (hbs.out _).2)))
            go_wp2_with fail
            go_ret
            exact ⟨rfl, q + nq, by first | rfl | rw [World.drewN_drewN]⟩
        · have hne : ¬ ((p1.toNat : Int) = (p2.toNat : Int)) := fun h => hp (BitVec.eq_of_toNat_eq (by omega))
          have hne2 : ((p1.toNat : Int) == (p2.toNat : Int)) = false := by simpa using hne
          have hr := hF2.out (fun h => hp h.1)
          subst hr
          clear hcall hSt
          go_wp2_with fail
          go_quiet (fail)
          go_wp2_with fail
          go_ret
          exact ⟨rfl, q + nq, by first | rfl | rw [World.drewN_drewN]⟩
      · have hr : res = true := hfin.out fun i hi => hall i (by rw [← N1.out] at hi; omega)
        subst hr
        have hkn2 : ¬ ((k : Int) < (n : Int)) := by omega
        clear hall hkn
        go_wp2_with fail
        go_ret
        exact ⟨rfl, q, rfl⟩
  · have hr : decide (dat L1 = dat L2) = false := decide_eq_false (fun e => hlen (by rw [← length_dat, e, length_dat]))
    rw [hr]
    have hne : ¬ ((L1.length : Int) = (L2.length : Int)) := by omega
    have hne2 : ((L1.length : Int) == (L2.length : Int)) = false := by simpa using hne
    clear hr s1 s2 hb1 hb2
    generalize L1.length = n1 at *
    generalize L2.length = n2 at *
    go_enter Try.func22, Try.ntmps22
    go_wp2
    go_ret
    exact ⟨rfl, 0, rfl⟩
end Go.Proofs.Ytpghdiklleedaaa
