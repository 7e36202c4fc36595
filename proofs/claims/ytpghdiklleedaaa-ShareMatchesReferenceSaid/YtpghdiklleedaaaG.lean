/- The contract of Split. -/
import Derived.Test.YtpghdiklleedaaaF
set_option linter.all false
namespace Go.Proofs.Ytpghdiklleedaaa
open Go.RowKit Go.Fen Gf
set_option linter.unusedVariables false
set_option linter.unusedSimpArgs false
set_option maxHeartbeats 400000

theorem split_bad (asl ar : Option Addr) (ls lr cs cr : Nat) (p q : Int) (h : p < 1 ∨ q < p ∨ 255 < q) (w : World) :
    Calls Try.prog 16 #[.slice asl ls cs, .slice ar lr cr, .agg #[.int .i64 p, .int .i64 q]] w fun e w' => e = .returned (.tuple #[.slice none 0 0, .int .i64 1]) ∧ Below w.heap.size w w' := by
  by_cases h1 : p < 1
  · have h1' : decide (p < 1) = true := decide_eq_true h1
    clear h
    go_enter Try.func16, Try.ntmps16
    go_wp2
    go_quiet (fail)
    go_wp2
    go_ret2
    exact ⟨rfl, below_drewN ((Below.refl _ _).alloc (Nat.le_refl _) _) _⟩
  · have h1' : decide (p < 1) = false := decide_eq_false h1
    by_cases h2 : q < p
    · have h2' : decide (q < p) = true := decide_eq_true h2
      clear h
      go_enter Try.func16, Try.ntmps16
      go_wp2
      go_quiet (fail)
      go_wp2
      go_ret2
      exact ⟨rfl, below_drewN ((Below.refl _ _).alloc (Nat.le_refl _) _) _⟩
    · have h2' : decide (q < p) = false := decide_eq_false h2
      have h3 : 255 < q := by omega
      have h3' : decide (255 < q) = true := decide_eq_true h3
      clear h
      go_enter Try.func16, Try.ntmps16
      go_wp2
      go_quiet (fail)
      go_wp2
      go_ret2
      exact ⟨rfl, below_drewN ((Below.refl _ _).alloc (Nat.le_refl _) _) _⟩

theorem Try.info33 : (Try.prog.info? 33).map (fun i => (i.zero, i.size, i.bytes)) = some (some (.agg #[.int .u8 0, .slice none 0 0]), 2, 32) := by kernel_rfl
theorem run_make_shares (n : Nat) (hn : n ≤ 1000000) (w : World) : (Instr.makeSlice 31 (.int .i64 (n : Int)) (.int .i64 (n : Int))).run Try.prog w = .ok (.slice (some ⟨w.heap.size, 0, none⟩) n n) (w.alloc (.cells (scells (List.replicate n zs)).toArray 33)) := by
  obtain ⟨i, hi, hzz⟩ := Option.map_eq_some_iff.1 Try.info33
  simp only [Prod.mk.injEq] at hzz
  obtain ⟨hz, hs, hb⟩ := hzz
  have hr := run_make (P := Try.prog) w 31 33 i _ Try.underlying31 hi hz .i64 .i64 n n (by omega) (Int.le_refl _) (by rw [hb]; omega) (by omega)
  rw [hs] at hr
  simp only [Int.toNat_natCast] at hr
  rw [← made_shares]
  exact hr

/-- the shares that Split makes -/
def splitL (s r : List (BitVec 8)) (need n : Nat) : List (BitVec 8 × List (BitVec 8)) := (List.range n).map fun i => (BitVec.ofNat 8 (i + 1), maskL s r need (BitVec.ofNat 8 (i + 1)))

/-- what the loops that fill a list of shares keep: k shares are laid, each with a slice of its own -/
structure Fill (B gl n k : Nat) (D : List (BitVec 8 × List (BitVec 8))) (W0 w : World) (M : List Shr) : Prop where
  len : M.length = k
  says : dat M = D.take k
  row : Row w gl 33 (scells (M ++ List.replicate (n - k) zs)).toArray
  own : ∀ i, i < k → ∃ g', (M.getD i zs).v = .slice (some ⟨g', 0, none⟩) (M.getD i zs).b.length (M.getD i zs).b.length ∧ gl < g' ∧ Row w g' 5 (bcells (M.getD i zs).b)
  bel : Below B W0 w
theorem Fill.step {B gl n k : Nat} {D : List (BitVec 8 × List (BitVec 8))} {W0 w w' : World} {M : List Shr} (h : Fill B gl n k D W0 w M) (hk : k < n) (hB : B ≤ gl) (x : BitVec 8) (b : List (BitVec 8)) (g' : Nat) (hD : D[k]? = some (x, b))
    (hg' : w.heap.size ≤ g') (hr : Row w' g' 5 (bcells b)) (hb : Below w.heap.size w w') :
    Fill B gl n (k + 1) D W0 (w'.setCells gl (k * 2) [.int .u8 x.toNat, .slice (some ⟨g', 0, none⟩) b.length b.length]) (M ++ [⟨x, .slice (some ⟨g', 0, none⟩) b.length b.length, b⟩]) := by
  have hgl : gl < w.heap.size := h.row.lt
  have hlen := h.len
  refine ⟨by simp [hlen], ?_, ?_, ?_, below_setCells2 (h.bel.trans (hb.mono (by omega))) hB _ _ _⟩
  · rw [List.take_add_one, hD, ← h.says]
    simp [dat]
  · have h1 := Row.set2 (h.row.below hb hgl) k ⟨x, .slice (some ⟨g', 0, none⟩) b.length b.length, b⟩
    have e : (M ++ List.replicate (n - k) zs).set k ⟨x, .slice (some ⟨g', 0, none⟩) b.length b.length, b⟩ = (M ++ [⟨x, .slice (some ⟨g', 0, none⟩) b.length b.length, b⟩]) ++ List.replicate (n - (k + 1)) zs := by
      rw [show n - k = (n - (k + 1)) + 1 by omega, List.replicate_succ, List.set_append_right _ _ (by omega), hlen, Nat.sub_self]
      simp
    rw [e] at h1
    exact h1
  · intro i hi
    by_cases hik : i < k
    · obtain ⟨g2, e2, hg2, hr2⟩ := h.own i hik
      have e : (M ++ [Shr.mk x (.slice (some ⟨g', 0, none⟩) b.length b.length) b]).getD i zs = M.getD i zs := by
        simp [List.getD, List.getElem?_append, hlen, hik]
      rw [e]
      exact ⟨g2, e2, hg2, Row.setCells_other (hr2.below hb hr2.lt) (by omega) _ _ _⟩
    · have e : (M ++ [Shr.mk x (.slice (some ⟨g', 0, none⟩) b.length b.length) b]).getD i zs = Shr.mk x (.slice (some ⟨g', 0, none⟩) b.length b.length) b := by
        have : i = k := by omega
        subst this
        simp [List.getD, List.getElem?_append, hlen]
      rw [e]
      exact ⟨g', rfl, by omega, Row.setCells_other hr (by omega) _ _ _⟩
theorem Fill.start {B gl n : Nat} {D : List (BitVec 8 × List (BitVec 8))} {W0 w : World} (hr : Row w gl 33 (scells (List.replicate n zs)).toArray) (hb : Below B W0 w) : Fill B gl n 0 D W0 w [] :=
  ⟨rfl, by simp [dat], by simpa using hr, fun i hi => by omega, hb⟩
theorem Fill.drewN {B gl n k : Nat} {D : List (BitVec 8 × List (BitVec 8))} {W0 w : World} {M : List Shr} (h : Fill B gl n k D W0 w M) (q : Nat) : Fill B gl n k D W0 (w.drewN q) M :=
  ⟨h.len, h.says, h.row, h.own, below_drewN h.bel q⟩
theorem Fill.alloc {B gl n k : Nat} {D : List (BitVec 8 × List (BitVec 8))} {W0 w : World} {M : List Shr} (h : Fill B gl n k D W0 w M) (hB : B ≤ w.heap.size) (o : Obj) : Fill B gl n k D W0 (w.alloc o) M :=
  ⟨h.len, h.says, h.row.alloc o, fun i hi => by obtain ⟨g', e, hg, hr⟩ := h.own i hi; exact ⟨g', e, hg, hr.alloc o⟩, h.bel.alloc hB o⟩
/-- all is laid -/
theorem Fill.done {B gl n k : Nat} {D : List (BitVec 8 × List (BitVec 8))} {W0 w : World} {M : List Shr} (h : Fill B gl n k D W0 w M) (hk : k = n) (hD : D.length = n) : dat M = D ∧ M.length = n ∧ Shs w (some ⟨gl, 0, none⟩) M ∧ Row w gl 33 (scells M).toArray := by
  subst hk
  have hr := h.row
  rw [Nat.sub_self] at hr
  simp only [List.replicate_zero, List.append_nil] at hr
  refine ⟨by rw [h.says, List.take_of_length_le (by omega)], h.len, Shs.of_row hr fun i hi => ?_, hr⟩
  obtain ⟨g', e, hg, hr2⟩ := h.own i (by rw [← h.len]; exact hi)
  exact ⟨_, _, e, Nat.le_refl _, Bs.of_row hr2⟩

set_option maxHeartbeats 1000000 in
theorem split_any (asl ar : Option Addr) (s r : List (BitVec 8)) (cs cr need n : Nat) (h1 : 1 ≤ need) (h2 : need ≤ n) (h3 : n ≤ 255) (hs : s.length ≤ 1000000) (hr : r.length ≤ 1000000000) (w : World) (B1 : Bs w asl s) (B0 : Bs w ar r) :
    Calls Try.prog 16 #[.slice asl s.length cs, .slice ar r.length cr, .agg #[.int .i64 need, .int .i64 n]] w fun e w' =>
      ∃ gl M, e = .returned (.tuple #[.slice (some ⟨gl, 0, none⟩) n n, .int .i64 0]) ∧ dat M = splitL s r need n ∧ M.length = n ∧ Shs w' (some ⟨gl, 0, none⟩) M ∧ w.heap.size ≤ gl ∧ Row w' gl 33 (scells M).toArray ∧ Below w.heap.size w w' := by
  have hm := fun g x W (hT : TB W g) (b1 : Bs W asl s) (b0 : Bs W ar r) => masked_any g asl ar s r cs cr need x h1 (by omega) hs hr W hT b1 b0
  obtain ⟨ls, hls⟩ : ∃ d : Nat, d = s.length := ⟨_, rfl⟩
  obtain ⟨lr, hlr⟩ : ∃ d : Nat, d = r.length := ⟨_, rfl⟩
  rw [← hls, ← hlr] at hm ⊢
  have LS := Lib.hid hls
  have HM := Lib.hid hm
  have HB1 := Lib.hid B1
  have HB0 := Lib.hid B0
  obtain ⟨g5, e5⟩ : ∃ g, g = w.heap.size := ⟨_, rfl⟩
  have hmk := run_make_shares n (by omega)
  have h1i : ¬ (need : Int) < 1 := by omega
  have h2i : ¬ (n : Int) < (need : Int) := by omega
  have h3i : ¬ (255 : Int) < (n : Int) := by omega
  have h1' : decide ((need : Int) < 1) = false := decide_eq_false h1i
  have h2' : decide ((n : Int) < (need : Int)) = false := decide_eq_false h2i
  have h3' : decide ((255 : Int) < (n : Int)) = false := decide_eq_false h3i
  clear hls hlr hm B1 B0 hs hr
  go_enter Try.func16, Try.ntmps16
  go_wp2
  go_quiet (fail)
  go_wp2_with fail
  have hn := newTables_any ((w.alloc (.cells #[.int .i64 (need : Int), .int .i64 (n : Int)] 30)).drewN nq)
  obtain ⟨W1, hW1⟩ : ∃ W, W = (w.alloc (.cells #[.int .i64 (need : Int), .int .i64 (n : Int)] 30)).drewN nq := ⟨_, rfl⟩
  have b1 : Below w.heap.size w W1 := by rw [hW1]; exact below_drewN ((Below.refl _ _).alloc (Nat.le_refl _) _) _
  rw [← hW1] at hn ⊢
  clear hW1
  refine hn.mono ?_
  rintro e w2 ⟨rfl, hT, hb2⟩
  obtain ⟨gt, egt⟩ : ∃ g, g = W1.heap.size := ⟨_, rfl⟩
  rw [← egt] at hT ⊢
  have hwg : w.heap.size ≤ gt := by rw [egt]; exact b1.size
  have b2 : Below w.heap.size w w2 := b1.trans (hb2.mono b1.size)
  clear hb2 egt hn b1 e5
  obtain ⟨gl, egl⟩ : ∃ g, g = w2.heap.size := ⟨_, rfl⟩
  have hTl : gt < gl := by rw [egl]; exact Row.lt hT
  obtain ⟨W3, hW3⟩ : ∃ W, W = w2.alloc (.cells (scells (List.replicate n zs)).toArray 33) := ⟨_, rfl⟩
  have f0 : Fill w.heap.size gl n 0 (splitL s r need n) w W3 [] := Fill.start (by rw [hW3]; exact Row.new' _ _ egl) (by rw [hW3]; exact b2.alloc b2.size _)
  have T3 : TB W3 gt := by rw [hW3]; exact Row.alloc hT _
  have HW3 := Lib.hid hW3
  have EGL := Lib.hid egl
  clear hW3 egl hT b2
  go_wp2_with fail
  rw [← HW3.out, ← EGL.out]
  clear hmk HW3 EGL
  go_loopw [33] (fun i wr => ∃ k : Nat, k ≤ n ∧ i = .int .i64 k ∧ TB wr gt ∧ ∃ M, Fill w.heap.size gl n k (splitL s r need n) w wr M) (fun i _ => n - (intOf i).toNat)
  case atStart => exact ⟨0, by omega, rfl, T3, _, f0⟩
  case round =>
    clear f0 T3
    obtain ⟨k, hk, rfl, hT, M, hF⟩ := hrel
    by_cases hkn : k < n
    · have ki : (k : Int) < (n : Int) := by omega
      have k255 : (k : Int) < 255 := by omega
      have hD : Hid ((splitL s r need n)[k]? = some (BitVec.ofNat 8 (k + 1), maskL s r need (BitVec.ofNat 8 (k + 1)))) := Lib.hid (by simp [splitL, hkn])
      have hml : (maskL s r need (BitVec.ofNat 8 (k + 1))).length = ls := by rw [length_maskL, LS.out]
      have hcall := HM.out gt (BitVec.ofNat 8 (k + 1)) wr hT (HB1.out.below hF.bel (Nat.le_refl _)) (HB0.out.below hF.bel (Nat.le_refl _))
      have ex : (((BitVec.ofNat 8 (k + 1)).toNat : Nat) : Int) = (k : Int) + 1 := by rw [BitVec.toNat_ofNat, Nat.mod_eq_of_lt (by omega)]; omega
      rw [ex] at hcall
      have hF0 := hF
      have hgl : gl < wr.heap.size := hF.row.lt
      have hS := fun (w' : World) (g' : Nat) hg' hr hb => hF.step (w' := w') hkn (by omega) (BitVec.ofNat 8 (k + 1)) (maskL s r need (BitVec.ofNat 8 (k + 1))) g' hD.out hg' hr hb
      rw [ex, hml] at hS
      have hth : ∀ w', Below wr.heap.size wr w' → w'.there gl (k * 2) 2 := fun w' hb => Row.there2 (hF.row.below hb hgl) k (by simp [hF.len]; omega)
      generalize maskL s r need (BitVec.ofNat 8 (k + 1)) = mk at *
      have HC := Lib.hid hcall
      have HS := Lib.hid hS
      have HT := Lib.hid hT
      have HTH := Lib.hid hth
      clear hcall hS hF hT hF0 hth
      go_wp2_with fail
      refine HC.out.mono ?_
      rintro e w' ⟨g', rfl, hg', hr', hb'⟩
      have hth' := Lib.hid (HTH.out w' hb')
      go_wp2_with (first | ((with_reducible show wpList _ _ _ (Oper.mk _ (Op.store _ _ _) _ _ _ _ :: _) _ _); refine wpList_store_mid rfl 33 (.tmp 46) (.tmp 45) rfl gl (k * 2) #[.int .u8 ((k : Int) + 1), .slice (some ⟨g', 0, none⟩) ls ls] rfl rfl hth'.out Try.n33 (one_share _ _ _ _) ?_))
      go_roundw
      case rel => exact ⟨k + 1, by omega, by go_num, Row.setCells_other (HT.out.below hb' (Row.lt HT.out)) (by omega) _ _ _, _, HS.out w' g' hg' hr' hb'⟩
      case measure => simp [intOf] <;> omega
    · have hfin := hF.done (by omega) (by simp [splitL])
      have hbel := hF.bel
      clear hF
      go_wp2_with fail
      go_ret2
      exact ⟨gl, M, rfl, hfin.1, hfin.2.1, hfin.2.2.1, by omega, hfin.2.2.2, hbel⟩
end Go.Proofs.Ytpghdiklleedaaa
