/- Split, Combine and Refresh and the reference's, for all arguments, in one form each. -/
import Derived.Test.YtpghdiklleedaaaRc
import Derived.Test.YtpghdiklleedaaaRr
set_option linter.all false
namespace Go.Proofs.Ytpghdiklleedaaa
open Go.RowKit Go.Fen Gf
set_option maxHeartbeats 400000

def splitR (s r : List (BitVec 8)) (p q : Int) : Dat × Int := if p < 1 ∨ q < p ∨ 255 < q then ([], 1) else (splitL s r p.toNat q.toNat, 0)
def combineR (D : Dat) (p : Int) : List (BitVec 8) × Int := if p < 1 ∨ 255 < p then ([], 1) else match combR D p.toNat with
  | some r => (r, 0)
  | none => ([], 40)
def refreshR (D : Dat) (r : List (BitVec 8)) (p : Int) : Dat × Int := if p < 1 ∨ 255 < p then ([], 1) else if well D = true then (refreshL D r p.toNat, 0) else ([], 40)
/-- a call that returns shares and an error -/
def ShRet (R : Dat × Int) (w : World) (e : Ending) (w' : World) : Prop := ∃ a M n c, e = .returned (.tuple #[.slice a n c, .int .i64 R.2]) ∧ n = M.length ∧ dat M = R.1 ∧ Shs w' a M ∧ Below w.heap.size w w'
/-- a call that returns bytes and an error -/
def BsRet (R : List (BitVec 8) × Int) (w : World) (e : Ending) (w' : World) : Prop := ∃ a n c, e = .returned (.tuple #[.slice a n c, .int .i64 R.2]) ∧ n = R.1.length ∧ Bs w' a R.1 ∧ Below w.heap.size w w'
theorem shs_nil (w : World) (a : Option Addr) : Shs w a [] := ⟨.inl rfl, fun i hi => by simp at hi⟩
theorem ShRet.nil {R : Dat × Int} {w w' : World} {x : Int} (h : R = ([], x)) (hb : Below w.heap.size w w') : ShRet R w (.returned (.tuple #[.slice none 0 0, .int .i64 x])) w' := by
  subst h; exact ⟨none, [], 0, 0, rfl, rfl, rfl, shs_nil _ _, hb⟩
theorem BsRet.nil {R : List (BitVec 8) × Int} {w w' : World} {x : Int} (h : R = ([], x)) (hb : Below w.heap.size w w') : BsRet R w (.returned (.tuple #[.slice none 0 0, .int .i64 x])) w' := by
  subst h; exact ⟨none, 0, 0, rfl, rfl, .inl rfl, hb⟩

theorem split_u (asl ar : Option Addr) (s r : List (BitVec 8)) (ls cs lr cr : Nat) (p q : Int) (els : ls = s.length) (elr : lr = r.length) (hs : ls ≤ 1000000) (hr : lr ≤ 1000000000) (w : World) (B1 : Bs w asl s) (B0 : Bs w ar r) :
    Calls Try.prog 16 #[.slice asl ls cs, .slice ar lr cr, .agg #[.int .i64 p, .int .i64 q]] w (ShRet (splitR s r p q) w) := by
  by_cases h : p < 1 ∨ q < p ∨ 255 < q
  · refine (split_bad asl ar ls lr cs cr p q h w).mono ?_
    rintro e w' ⟨rfl, hb⟩
    exact ShRet.nil (by rw [splitR, if_pos h]) hb
  · obtain ⟨P, rfl⟩ : ∃ P : Nat, p = P := ⟨p.toNat, by omega⟩
    obtain ⟨Q, rfl⟩ : ∃ Q : Nat, q = Q := ⟨q.toNat, by omega⟩
    subst els elr
    refine (split_any asl ar s r cs cr P Q (by omega) (by omega) (by omega) hs hr w B1 B0).mono ?_
    rintro e w' ⟨gl, M, rfl, hM, hl, hS, _, _, hb⟩
    have hR : splitR s r P Q = (splitL s r P Q, 0) := by rw [splitR, if_neg h]; rfl
    rw [hR]
    exact ⟨_, M, Q, Q, rfl, hl.symm, hM, hS, hb⟩
theorem rsplit_u (asl ar : Option Addr) (s r : List (BitVec 8)) (ls cs lr cr : Nat) (p q : Int) (els : ls = s.length) (elr : lr = r.length) (hs : ls ≤ 1000000) (hr : lr ≤ 1000000000) (w : World) (B1 : Bs w asl s) (B0 : Bs w ar r) :
    Calls Try.prog 17 #[.slice asl ls cs, .slice ar lr cr, .agg #[.int .i64 p, .int .i64 q]] w (ShRet (splitR s r p q) w) := by
  by_cases h : p < 1 ∨ q < p ∨ 255 < q
  · refine (rsplit_bad asl ar ls lr cs cr p q h w).mono ?_
    rintro e w' ⟨rfl, hb⟩
    exact ShRet.nil (by rw [splitR, if_pos h]) hb
  · obtain ⟨P, rfl⟩ : ∃ P : Nat, p = P := ⟨p.toNat, by omega⟩
    obtain ⟨Q, rfl⟩ : ∃ Q : Nat, q = Q := ⟨q.toNat, by omega⟩
    refine (rsplit_any asl ar s r ls cs lr cr P Q (by omega) (by omega) (by omega) els elr hs hr w B1 B0).mono ?_
    rintro e w' ⟨a, c, rfl, _, M, hM, hl, hS, hb⟩
    have hR : splitR s r P Q = (splitL s r P Q, 0) := by rw [splitR, if_neg h]; rfl
    rw [hR]
    exact ⟨a, M, Q, c, rfl, hl.symm, hM, hS, hb⟩
theorem combine_u (a : Option Addr) (L : List Shr) (n c : Nat) (p : Int) (en : n = L.length) (hL : n ≤ 1000000) (hbl : ∀ i, i < L.length → (L.getD i zs).b.length ≤ 1000000) (w : World) (hs : Shs w a L) :
    Calls Try.prog 18 #[.slice a n c, .int .i64 p] w (BsRet (combineR (dat L) p) w) := by
  by_cases h : p < 1 ∨ 255 < p
  · refine (combine_bad a n c p h w).mono ?_
    rintro e w' ⟨rfl, rfl⟩
    exact BsRet.nil (by rw [combineR, if_pos h]) (Below.refl _ _)
  · obtain ⟨P, rfl⟩ : ∃ P : Nat, p = P := ⟨p.toNat, by omega⟩
    subst en
    refine (combine_any a L c P (by omega) (by omega) hL hbl w hs).mono ?_
    rintro e w' ⟨hp, hb⟩
    have hR : combineR (dat L) P = match combR (dat L) P with | some r => (r, 0) | none => ([], 40) := by rw [combineR, if_neg h]; rfl
    unfold combPost at hp
    cases hc : combR (dat L) P with
    | some x =>
      rw [hc] at hp hR
      dsimp only at hp hR
      rw [hR]
      obtain ⟨g, rfl, _, hrow⟩ := hp
      exact ⟨_, _, _, rfl, rfl, Bs.of_row hrow, hb⟩
    | none =>
      rw [hc] at hp hR
      dsimp only at hp hR
      rw [hp]; exact BsRet.nil hR hb
theorem rcombine_u (a : Option Addr) (L : List Shr) (n c : Nat) (p : Int) (en : n = L.length) (hL : n ≤ 1000000) (hbl : ∀ i, i < L.length → (L.getD i zs).b.length ≤ 1000000) (w : World) (hs : Shs w a L) :
    Calls Try.prog 19 #[.slice a n c, .int .i64 p] w (BsRet (combineR (dat L) p) w) := by
  by_cases h : p < 1 ∨ 255 < p
  · refine (rcombine_bad a n c p h w).mono ?_
    rintro e w' ⟨rfl, rfl⟩
    exact BsRet.nil (by rw [combineR, if_pos h]) (Below.refl _ _)
  · obtain ⟨P, rfl⟩ : ∃ P : Nat, p = P := ⟨p.toNat, by omega⟩
    refine (rcombine_any a L n c P en (by omega) (by omega) hL hbl w hs).mono ?_
    intro e w' hp
    have hR : combineR (dat L) P = match combR (dat L) P with | some r => (r, 0) | none => ([], 40) := by rw [combineR, if_neg h]; rfl
    unfold rcPost at hp
    cases hc : combR (dat L) P with
    | some x =>
      rw [hc] at hp hR
      dsimp only at hp hR
      rw [hR]
      obtain ⟨v, rfl, hbuf⟩ := hp
      obtain ⟨pa, pc, ev, _, hbs⟩ := (hbuf.svx (r := none) (fun k hk => by cases hk)).sv
      subst ev
      exact ⟨_, _, _, rfl, rfl, hbs, hbuf.2.1⟩
    | none =>
      rw [hc] at hp hR
      dsimp only at hp hR
      obtain ⟨rfl, hb⟩ := hp
      exact BsRet.nil hR hb
theorem refresh_u (a ar : Option Addr) (L : List Shr) (r : List (BitVec 8)) (n c lr cr : Nat) (p : Int) (en : n = L.length) (hL : n ≤ 1000) (hbl : ∀ i, i < L.length → (L.getD i zs).b.length ≤ 1000000) (elr : lr = r.length) (hr : lr ≤ 1000000000) (w : World) (hs : Shs w a L) (B0 : Bs w ar r) :
    Calls Try.prog 20 #[.slice a n c, .slice ar lr cr, .int .i64 p] w (ShRet (refreshR (dat L) r p) w) := by
  by_cases h : p < 1 ∨ 255 < p
  · refine (refresh_bad a ar n c lr cr p h w).mono ?_
    rintro e w' ⟨rfl, rfl⟩
    exact ShRet.nil (by rw [refreshR, if_pos h]) (Below.refl _ _)
  · obtain ⟨P, rfl⟩ : ∃ P : Nat, p = P := ⟨p.toNat, by omega⟩
    subst en elr
    refine (refresh_any a ar L r c cr P (by omega) (by omega) hL hbl hr w hs B0).mono ?_
    rintro e w' ⟨⟨hw, rfl⟩ | ⟨hw, gl, M, rfl, hM, hl, hS, _⟩, hb⟩
    · exact ShRet.nil (by rw [refreshR, if_neg h, hw]; rfl) hb
    · have hR : refreshR (dat L) r P = (refreshL (dat L) r P, 0) := by rw [refreshR, if_neg h, if_pos hw]; rfl
      rw [hR]
      exact ⟨_, M, _, _, rfl, hl.symm, hM, hS, hb⟩
theorem rrefresh_u (a ar : Option Addr) (L : List Shr) (r : List (BitVec 8)) (n c lr cr : Nat) (p : Int) (en : n = L.length) (hL : n ≤ 1000) (hbl : ∀ i, i < L.length → (L.getD i zs).b.length ≤ 1000000) (elr : lr = r.length) (hr : lr ≤ 1000000000) (w : World) (hs : Shs w a L) (B0 : Bs w ar r) :
    Calls Try.prog 21 #[.slice a n c, .slice ar lr cr, .int .i64 p] w (ShRet (refreshR (dat L) r p) w) := by
  by_cases h : p < 1 ∨ 255 < p
  · refine (rrefresh_bad a ar n c lr cr p h w).mono ?_
    rintro e w' ⟨rfl, rfl⟩
    exact ShRet.nil (by rw [refreshR, if_pos h]) (Below.refl _ _)
  · obtain ⟨P, rfl⟩ : ∃ P : Nat, p = P := ⟨p.toNat, by omega⟩
    refine (rrefresh_any a ar L r n c lr cr P en (by omega) (by omega) (by omega) hbl elr hr w hs B0).mono ?_
    rintro e w' ⟨⟨hw, rfl⟩ | ⟨hw, a', c', M, rfl, _, hM, hl, hS⟩, hb⟩
    · exact ShRet.nil (by rw [refreshR, if_neg h, hw]; rfl) hb
    · have hR : refreshR (dat L) r P = (refreshL (dat L) r P, 0) := by rw [refreshR, if_neg h, if_pos hw]; rfl
      rw [hR]
      exact ⟨a', M, n, c', rfl, hl.symm, hM, hS, hb⟩

theorem splitR_size (s r : List (BitVec 8)) (p q : Int) : (splitR s r p q).1.length ≤ 255 ∧ ∀ k, k < (splitR s r p q).1.length → (dB (splitR s r p q).1 k).length = s.length := by
  unfold splitR
  split
  · exact ⟨by simp, fun k hk => by simp at hk⟩
  · refine ⟨by simp only [length_splitL]; omega, fun k hk => ?_⟩
    simp only [length_splitL] at hk
    simp [splitL, dB, List.getD, hk, length_maskL]
theorem refreshR_size (D : Dat) (r : List (BitVec 8)) (p : Int) : (refreshR D r p).1.length ≤ D.length ∧ ∀ k, k < (refreshR D r p).1.length → (dB (refreshR D r p).1 k).length = (dB D k).length := by
  unfold refreshR
  split
  · exact ⟨by simp, fun k hk => by simp at hk⟩
  · split
    · refine ⟨by simp [refreshL], fun k hk => ?_⟩
      have hk' : k < D.length := by simpa [refreshL] using hk
      simp [refreshL, dB, List.getD, hk', length_maskL]
    · exact ⟨by simp, fun k hk => by simp at hk⟩
end Go.Proofs.Ytpghdiklleedaaa
