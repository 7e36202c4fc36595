/- The contract of the reference's Order. -/
import Derived.Test.YtnpkbjekodjcjaaDoorKq
set_option linter.all false
namespace Go.Proofs.YtnpkbjekodjcjaaDoor
open Go.RowKit Go.Fen Hil
set_option linter.unusedVariables false
set_option maxHeartbeats 4000000

/-- a number is put in at k -/
def insAt (D : List Nat) (k x : Nat) : List Nat := D.take k ++ x :: D.drop k
theorem length_insAt (D : List Nat) (k x : Nat) (h : k ≤ D.length) : (insAt D k x).length = D.length + 1 := by simp [insAt]; omega
theorem mem_insAt (D : List Nat) (k x y : Nat) : y ∈ insAt D k x ↔ y = x ∨ y ∈ D := by
  unfold insAt
  rw [List.mem_append, List.mem_cons]
  have : y ∈ D ↔ y ∈ D.take k ∨ y ∈ D.drop k := by rw [← List.mem_append, List.take_append_drop]
  rw [this]
  constructor
  · rintro (h | h | h)
    · exact .inr (.inl h)
    · exact .inl h
    · exact .inr (.inr h)
  · rintro (h | h | h)
    · exact .inr (.inl h)
    · exact .inl h
    · exact .inr (.inr h)
theorem pairwise_insAt {K D : List Nat} {k x : Nat} (hD : D.Pairwise (lt K)) (hx : ∀ y ∈ D, y < x) (hk : k ≤ D.length) (h1 : k = 0 ∨ ¬ K.getD x 0 < K.getD (at' D (k - 1)) 0) (h2 : k = D.length ∨ K.getD x 0 < K.getD (at' D k) 0) : (insAt D k x).Pairwise (lt K) := by
  have hp := List.pairwise_iff_getElem.1 hD
  have at_get : ∀ i (h : i < D.length), at' D i = D[i] := fun i h => by simp [at', List.getD, h]
  have left : ∀ i (h : i < D.length), i < k → lt K D[i] x := fun i h hi => by
    have hx' := hx D[i] (List.getElem_mem h)
    have hlast : lt K D[k - 1] x := by
      have := hx D[k - 1] (List.getElem_mem (by omega))
      rw [at_get (k - 1) (by omega)] at h1
      unfold lt
      rcases h1 with e | e <;> omega
    by_cases e : i = k - 1
    · subst e; exact hlast
    · exact lt_trans (hp i (k - 1) h (by omega) (by omega)) hlast
  have right : ∀ i (h : i < D.length), k ≤ i → lt K x D[i] := fun i h hi => by
    have hfirst : lt K x (D[k]'(by omega)) := by
      rw [at_get k (by omega)] at h2
      unfold lt
      rcases h2 with e | e
      · omega
      · exact .inl e
    by_cases e : i = k
    · subst e; exact hfirst
    · exact lt_trans hfirst (hp k i (by omega) h (by omega))
  unfold insAt
  rw [List.pairwise_append, List.pairwise_cons]
  refine ⟨hD.sublist (List.take_sublist _ _), ⟨fun y hy => ?_, hD.sublist (List.drop_sublist _ _)⟩, fun y hy z hz => ?_⟩
  · obtain ⟨j, hj, rfl⟩ := List.mem_iff_getElem.1 hy
    rw [List.getElem_drop]
    exact right _ _ (by omega)
  · obtain ⟨j, hj, rfl⟩ := List.mem_iff_getElem.1 hy
    have hj' : j < D.length ∧ j < k := by simp at hj; omega
    rw [List.getElem_take]
    rcases List.mem_cons.1 hz with e | hz
    · rw [e]; exact left j hj'.1 hj'.2
    · obtain ⟨l, hl, rfl⟩ := List.mem_iff_getElem.1 hz
      rw [List.getElem_drop]
      simp at hl
      exact hp j (k + l) hj'.1 (by omega) (by omega)

def nvals (D : List Nat) : List Value := D.map fun (x : Nat) => Value.int .i64 (x : Int)
theorem get_nvals (D : List Nat) (i : Nat) (h : i < D.length) : (nvals D)[i]? = some (.int .i64 (at' D i)) := by simp [nvals, at', List.getD, h]
theorem one_nvals (D : List Nat) : ∀ u ∈ nvals D, u.oneCell' = true := by
  intro u hu
  obtain ⟨x, _, rfl⟩ := List.mem_map.1 hu
  rfl

theorem owns_mono {w : World} {base base' : Nat} {e : TypeId} {size : Nat} {v : Value} {n : Nat} {xs : List Value} (h : w.ownsRow base e size v n xs) (hb : base' ≤ base) : w.ownsRow base' e size v n xs := by
  refine ⟨h.1, ?_⟩
  rcases h.2 with h2 | ⟨g, cap, cur, hv, hbg, r⟩
  · exact .inl h2
  · exact .inr ⟨g, cap, cur, hv, Nat.le_trans hb hbg, r⟩
/-- 'buf = append(buf, ys...)' -/
theorem wpList_pushL {ops : Array Oper} {rest : List Oper} {o : Oper} {a : Act} {w : World} {Q : Exit → Act → World → Prop} {P : Program} (hgd : o.guard = none) (s x : Operand) (t : TypeId)
    (ho : o.op = .call { callee := .builtin .append, args := #[s, x], argTypes := #[t, t] })
    (B : Nat) (e : TypeId) (z : Value) (bytes : Nat) (ht : P.underlying t = some (.slice e)) (hi : (P.info? e).map (fun i => (i.zero, i.size, i.bytes)) = some (some z, 1, bytes)) (hzs : z.cells.size = 1)
    (v : Value) (n : Nat) (xs : List Value) (hs : a.eval s = v) (W0 : World) (hb : Buf B e v n xs W0 w) (ad : Addr) (m c : Nat) (news : List Value) (hx : a.eval x = .slice (some ad) m c) (hl : news.length = m)
    (hnews : ∀ j u, news[j]? = some u → w.cell? (ad.add j) = some u) (h1 : ∀ u ∈ news, u.oneCell' = true) (h63 : n + m ≤ maxLen) (hlen : (n + m) * bytes ≤ 140737488355328)
    (h : ∀ v' w', Buf B e v' (n + m) (xs ++ news) W0 w' → wpList P ops Q rest (a.put o.dst v') w') : wpList P ops Q (o :: rest) a w := by
  obtain ⟨i, hi, hzz⟩ := Option.map_eq_some_iff.1 hi
  simp only [Prod.mk.injEq] at hzz
  refine wpList_append_own _ hgd s x t ho B e i z 1 bytes ht hi hzz.1 hzz.2.1 hzz.2.2 hzs (by decide) v n xs hs hb.1 ad m c news hx (by omega) hnews h1 h63 hlen hb.2.2 ?_
  intro v' w' ho' hg _
  exact h v' w' (hb.grown ho' hg)

set_option maxRecDepth 20000 in
theorem rorder_any (a : Option Addr) (L : List (List (Int × Int))) (n c k : Nat) (id0 id1 : Int) (w : World) (en : n = L.length) (hn : n ≤ 1000000) (hM : RowsM w a L) (k1 : 1 ≤ k) (k2 : k ≤ 16) (hB0 : ∀ i, i < n → B64 (numR (L.getD i []) id0).1) (hB1 : ∀ i, i < n → B64 (numR (L.getD i []) id1).1) :
    Calls Tryd.prog 19 #[.slice a n c, .agg #[.int .i64 id0, .int .i64 id1], .int .i64 k] w fun e w' => ∃ go co D, e = .returned (.tuple #[.slice (some ⟨go, 0, none⟩) n co, .int .i64 0]) ∧ go < w'.heap.size ∧ (∀ i, i < n → w'.cell? ⟨go, i, none⟩ = some (.int .i64 (at' D i))) ∧ D.length = n ∧ (∀ y, y ∈ D ↔ y < n) ∧ D.Pairwise (lt ((List.range n).map (keyR L id0 id1 k n))) ∧ Below w.heap.size w w' := by
  obtain ⟨g, eg⟩ : ∃ g, g = w.heap.size := ⟨_, rfl⟩
  obtain ⟨W0, hW0⟩ : ∃ W, W = w.alloc (.cells #[.int .i64 id0, .int .i64 id1] 45) := ⟨_, rfl⟩
  have hb : Below w.heap.size w W0 := by rw [hW0]; exact (Below.refl _ _).alloc (Nat.le_refl _) _
  have R0 : Row W0 g 45 #[.int .i64 id0, .int .i64 id1] := by rw [hW0]; exact Row.new' 45 _ eg
  have KE := Lib.hid (fun W (h : Below w.heap.size w W) => rkeys_any a L n c k id0 id1 W en hn (hM.below h (Nat.le_refl _)) k1 k2 hB0 hB1)
  have q0 := R0.cell 0
  have q1 := R0.cell 1
  simp only [List.getElem?_toArray, List.getElem?_cons_zero, List.getElem?_cons_succ] at q0 q1
  obtain ⟨f, hf⟩ : ∃ f, f = keyR L id0 id1 k n := ⟨_, rfl⟩
  have KE1 := KE.out
  rw [← hf] at KE1 ⊢
  have HKE := Lib.hid KE1
  obtain ⟨K, hK⟩ : ∃ K, K = (List.range n).map f := ⟨_, rfl⟩
  rw [← hK]
  have KG := Lib.hid (fun j (hj : j < n) => (show K.getD j 0 = f j by rw [hK]; simp [List.getD, hj]))
  have ez : w.heap.size = g := eg.symm
  have i0 : decide (k < 1) = false := decide_eq_false (by omega)
  have i1 : decide (16 < k) = false := decide_eq_false (by omega)
  have i2 : ¬ k = 0 := by omega
  have HW0 := Lib.hid hW0
  have EG := Lib.hid eg
  have HB := Lib.hid hb
  clear hW0 eg hb R0 KE KE1 hf hK hM en hB0 hB1
  go_enter Tryd.func19, Tryd.ntmps19
  go_wp2_with (first | ((with_reducible show wpList _ _ _ (Oper.mk _ (Op.box _ _) _ _ _ _ :: _) _ _); (refine wpList_box_row rfl 45 (.tmp 1) rfl _ rfl g EG.out ?_; refine wpList_atE HW0.out ?_)))
  refine (HKE.out _ HB.out).mono ?_
  rintro e W1 ⟨ak, ck, rfl, mk, b1⟩
  have HB1 := Lib.hid (bel_tr HB.out b1)
  have MK := Lib.hid mk
  obtain ⟨B, hB⟩ : ∃ B, B = W1.heap.size := ⟨_, rfl⟩
  obtain ⟨W2, hW2⟩ : ∃ W, W = W1.alloc (.cells #[] 3) := ⟨_, rfl⟩
  have B0 : Buf B 3 (.slice (some ⟨B, 0, none⟩) 0 0) 0 (nvals []) W1 W2 := by
    rw [hW2]
    exact Buf.lit (Below.refl _ _) (by rw [hB]; exact Nat.le_refl _) #[] 0 rfl (by decide) B hB
  have HB0 := Lib.hid B0
  have HW2 := Lib.hid hW2
  have HBB := Lib.hid hB
  have ez2 : W1.heap.size = B := hB.symm
  clear q0 q1 b1 mk B0 hW2 hB
  go_wp2_with (first | ((with_reducible (refine wpList_atE HW2.out ?_))))
  rw [← HW2.out]
  go_loopw [9, 10, 11, 12] (fun v iv _ _ wr => ∃ (i go cap : Nat) (D : List Nat), i ≤ n ∧ iv = .int .i64 i ∧ v = .slice (some ⟨go, 0, none⟩) i cap ∧ Buf B 3 v i (nvals D) W1 wr ∧ i ≤ cap ∧ D.length = i ∧ (∀ y, y ∈ D ↔ y < i) ∧ D.Pairwise (lt K)) (fun _ iv _ _ _ => n - (intOf iv).toNat)
  case atStart => exact ⟨0, B, 0, [], Nat.zero_le _, rfl, rfl, HB0.out, Nat.le_refl _, rfl, fun y => by simp, List.Pairwise.nil⟩
  case round =>
    obtain ⟨i, go, cap, D, hi, rfl, rfl, hbuf, hcap, hlen, hmem, hpw⟩ := hrel
    obtain ⟨wo, hwo⟩ : ∃ x, x = wr := ⟨_, rfl⟩
    subst hwo
    have HBUF := Lib.hid hbuf
    by_cases hin : i < n
    · have ii : (i : Int) < (n : Int) := by omega
      obtain ⟨gk, ok, rfl, hgk, hck⟩ : ∃ g o, ak = some ⟨g, o, none⟩ ∧ g < W1.heap.size ∧ ∀ i, i < n → W1.cell? ⟨g, o + i, none⟩ = some (.int .u64 (f i)) := by
        rcases MK.out with ⟨_, h⟩ | h
        · omega
        · exact h
      have CK := Lib.hid (fun j (hj : j < n) => (hbuf.2.1.cell (p := ⟨gk, ok + j, none⟩) (by show gk < B; omega)).trans (hck j hj))
      have CO := Lib.hid (fun j (hj : j < i) => (show wo.cell? ⟨go, j, none⟩ = some (.int .i64 (at' D j)) by rw [hbuf.1.cellAt j (by omega)]; exact get_nvals D j (by omega)))
      have HLEN := Lib.hid hlen
      have HMEM := Lib.hid hmem
      have HPW := Lib.hid hpw
      have HI := Lib.hid hin
      have HCAP := Lib.hid hcap
      have HGO := Lib.hid (hbuf.1.lt go rfl)
      have i6 : i ≤ 1000000 := by omega
      clear hi hbuf hcap hlen hmem hpw hck hin
      go_wp2_with fail
      go_loopw [11] (fun kv wr => ∃ j q : Nat, j ≤ i ∧ kv = .int .i64 j ∧ (j = i ∨ K.getD i 0 < K.getD (at' D j) 0) ∧ wr = wo.drewN q) (fun kv _ => (intOf kv).toNat)
      case atStart => exact ⟨i, 0, Nat.le_refl _, rfl, .inl rfl, rfl⟩
      case round =>
        obtain ⟨j, q, hj, rfl, hst, hw⟩ := hrel
        have HW := Lib.hid hw
        have HST := Lib.hid hst
        have j6 : j ≤ 1000000 := by omega
        have BAD : Hid (¬ (0 < j ∧ K.getD i 0 < K.getD (at' D (j - 1)) 0) → insAt D j i = insAt D j i ∧ (insAt D j i).Pairwise (lt K)) := Lib.hid (fun hh => ⟨rfl, pairwise_insAt HPW.out (fun y hy => (HMEM.out y).1 hy) (by rw [HLEN.out]; exact hj) (by
          by_cases e : j = 0
          · exact .inl e
          · exact .inr (fun h => hh ⟨by omega, h⟩)) (by rw [HLEN.out]; exact hst)⟩)
        have c3 : wr.cell? ⟨gk, ok + i, none⟩ = some (.int .u64 (f i)) := by rw [hw]; exact CK.out i HI.out
        obtain ⟨ki, hki⟩ : ∃ x, x = f i := ⟨_, rfl⟩
        rw [← hki] at c3
        by_cases hj0 : 0 < j
        · have j0 : (0 : Int) < (j : Int) := by omega
          have j0' : decide (0 < j) = true := decide_eq_true hj0
          obtain ⟨jm, hjm⟩ : ∃ p, p = j - 1 := ⟨_, rfl⟩
          have ejm : (j : Int) - 1 = (jm : Int) := by omega
          have jmi : (jm : Int) < (i : Int) := by omega
          have c1 : wr.cell? ⟨go, jm, none⟩ = some (.int .i64 (at' D jm)) := by rw [hw]; exact CO.out jm (by omega)
          obtain ⟨y, hy⟩ : ∃ y, y = at' D jm := ⟨_, rfl⟩
          have hyn : y < n := by
            have hmm : y ∈ D := by
              have hl : jm < D.length := by rw [HLEN.out]; omega
              have : y = D[jm] := by rw [hy]; simp [at', List.getD, hl]
              rw [this]; exact List.getElem_mem hl
            have := (HMEM.out y).1 hmm
            have := HI.out
            omega
          have c2 : wr.cell? ⟨gk, ok + y, none⟩ = some (.int .u64 (f y)) := by rw [hw]; exact CK.out y hyn
          obtain ⟨ky, hky⟩ : ∃ x, x = f y := ⟨_, rfl⟩
          rw [← hy] at c1
          rw [← hky] at c2
          have yi : (y : Int) < (n : Int) := by omega
          have KI : Hid (K.getD i 0 = ki) := Lib.hid ((KG.out i HI.out).trans hki.symm)
          have KY : Hid (K.getD (at' D (j - 1)) 0 = ky) := Lib.hid (by rw [← hjm, ← hy, KG.out y hyn, hky])
          by_cases hk : ki < ky
          · have dk : decide (ki < ky) = true := decide_eq_true hk
            have dki : (ki : Int) < (ky : Int) := by omega
            have HJ := Lib.hid (And.intro hj (And.intro hj0 (And.intro hjm hk)))
            clear hj hj0 hjm hk hst hw hki hky hy hyn BAD
            go_wp2_with fail
            go_quiet (fail)
            go_wp2_with fail
            go_roundw
            case rel =>
              obtain ⟨x1, x2, x3, x4⟩ := HJ.out
              have e1 := KI.out
              have e2 := KY.out
              rw [← x3] at e2
              exact ⟨jm, q + nq, by omega, rfl, .inr (by rw [e1, e2]; exact x4), by rw [HW.out, World.drewN_drewN]⟩
            case measure => have := HJ.out; simp [intOf] <;> omega
          · have dk : decide (ki < ky) = false := decide_eq_false hk
            have dki : ¬ (ki : Int) < (ky : Int) := by omega
            have PW := Lib.hid (BAD.out (fun h => hk (by have e1 := KI.out; have e2 := KY.out; omega))).2
            have HJ := Lib.hid hj
            clear hj hj0 hjm hk hst hw hki hky hy hyn BAD
            go_wp2_with fail
            go_quiet (fail)
            obtain ⟨wz, hwz⟩ : ∃ W, W = wr.drewN nq := ⟨_, rfl⟩
            rw [← hwz]
            have hz : wz = wo.drewN (q + nq) := by rw [hwz, HW.out, World.drewN_drewN]
            have HBZ := Lib.hid (show Buf B 3 (.slice (some ⟨go, 0, none⟩) i cap) i (nvals D) W1 wz by rw [hz]; exact HBUF.out.drewN _)
            obtain ⟨B2, hB2⟩ : ∃ b, b = wz.heap.size := ⟨_, rfl⟩
            have gob : go < B2 := by have := HGO.out.2; rw [hB2, hz]; exact this
            have CZ := Lib.hid (fun (W : World) (h : Below B2 wz W) t (ht : t < i) => (show W.cell? ⟨go, t, none⟩ = some (.int .i64 (at' D t)) by rw [h.cell (p := ⟨go, t, none⟩) gob, hz]; exact CO.out t ht))
            have LD := HLEN.out
            have NEWS1 := Lib.hid (fun (W : World) (h : Below B2 wz W) jj u (hu : (nvals (D.take j))[jj]? = some u) => (show W.cell? ((⟨go, 0, none⟩ : Addr).add jj) = some u by
              have hjj : jj < (nvals (D.take j)).length := (List.getElem?_eq_some_iff.1 hu).1
              have l2 : jj < j ∧ jj < i := by simp [nvals] at hjj; omega
              rw [Addr.add_mid, Nat.zero_add, CZ.out W h jj l2.2, ← hu, get_nvals _ _ (by simp; omega)]
              simp [at', List.getD, List.getElem?_take, l2.1]))
            have NEWS2 := Lib.hid (fun (W : World) (h : Below B2 wz W) jj u (hu : (nvals (D.drop j))[jj]? = some u) => (show W.cell? ((⟨go, j, none⟩ : Addr).add jj) = some u by
              have hjj : jj < (nvals (D.drop j)).length := (List.getElem?_eq_some_iff.1 hu).1
              have l2 : j + jj < i := by simp [nvals] at hjj; omega
              rw [Addr.add_mid, CZ.out W h (j + jj) l2, ← hu, get_nvals _ _ (by simp; omega)]
              simp [at', List.getD, List.getElem?_drop]))
            have LT1 := Lib.hid (show (nvals (D.take j)).length = j by have := HJ.out; simp [nvals]; omega)
            have LT2 := Lib.hid (show (nvals (D.drop j)).length = i - j by simp [nvals]; omega)
            obtain ⟨Wa, hWa⟩ : ∃ W, W = wz.alloc (.cells #[] 3) := ⟨_, rfl⟩
            have HBa := Lib.hid (show Buf B2 3 (.slice (some ⟨B2, 0, none⟩) 0 0) 0 ([] : List Value) wz Wa by rw [hWa]; exact Buf.lit (Below.refl _ _) (by rw [hB2]; exact Nat.le_refl _) #[] 0 rfl (by decide) B2 hB2)
            have HWa := Lib.hid hWa
            have ezz : wz.heap.size = B2 := hB2.symm
            have jle : (j : Int) ≤ (i : Int) := by have := HJ.out; omega
            have jle2 : j ≤ i := HJ.out
            have jcap : (j : Int) ≤ (cap : Int) := by have := HJ.out; have := HCAP.out; omega
            have jcap2 : j ≤ cap := by have := HJ.out; have := HCAP.out; omega
            have icap : (i : Int) ≤ (cap : Int) := by have := HCAP.out; omega
            have icap2 : i ≤ cap := HCAP.out
            have BW := Lib.hid (show B ≤ B2 by have := HGO.out.1; omega)
            have NEWS0 : Hid (cap = j → ∀ (ad : Addr) (W : World) jj u, (nvals (D.drop j))[jj]? = some u → W.cell? (ad.add jj) = some u) := Lib.hid (fun hc ad W jj u hu => by
              have hjj : jj < (nvals (D.drop j)).length := (List.getElem?_eq_some_iff.1 hu).1
              simp [nvals] at hjj
              have := HCAP.out
              omega)
            clear hz hwz hB2 LD hWa c3 c1 c2
            by_cases hcj : cap = j
            · have NEWS0 := Lib.hid (NEWS0.out hcj)
              go_wp2_with (first | ((with_reducible show wpList _ _ _ (Oper.mk _ (Op.call _) _ _ _ _ :: _) _ _); (refine wpList_pushL rfl (.tmp 51) (.tmp 54) 46 rfl B2 3 (.int .i64 0) 8 Tryd.underlying46 Tryd.info3 rfl _ 0 [] rfl wz HBa.out ⟨go, 0, none⟩ j _ (nvals (D.take j)) rfl LT1.out (NEWS1.out _ HBa.out.2.1) (one_nvals _) (by unfold maxLen; omega) (by omega) (fun v1 w1 hv1 => ?_); have HV1 := Lib.hid hv1; clear hv1)) | ((with_reducible show wpList _ _ _ (Oper.mk _ (Op.call _) _ _ _ _ :: _) _ _); (refine wpList_push rfl (.tmp 56) (.tmp 58) 46 rfl B2 3 (.int .i64 0) 8 Tryd.underlying46 Tryd.info3 rfl v1 (0 + j) ([] ++ nvals (D.take j)) rfl wz w1 _ (.int .i64 i) rfl rfl HV1.out rfl (by unfold maxLen; omega) (by omega) (fun v2 w2 hv2 _ => ?_); have HV2 := Lib.hid hv2; clear hv2)) | ((with_reducible show wpList _ _ _ (Oper.mk _ (Op.call _) _ _ _ _ :: _) _ _); (refine wpList_pushL rfl (.tmp 60) (.tmp 63) 46 rfl B2 3 (.int .i64 0) 8 Tryd.underlying46 Tryd.info3 rfl v2 (0 + j + 1) _ rfl wz HV2.out _ (i - j) _ (nvals (D.drop j)) rfl LT2.out (NEWS0.out _ _) (one_nvals _) (by unfold maxLen; omega) (by omega) (fun v3 w3 hv3 => ?_); obtain ⟨g3, cap3, ev3, _, _, hc3⟩ := hv3.form (by omega); subst ev3; have HC3 := Lib.hid hc3; have HV3 := Lib.hid hv3; clear hv3 hc3)) | ((with_reducible (refine wpList_atE HWa.out ?_))))
              go_roundw
              case rel =>
                have h3 := HV3.out
                have e : [] ++ nvals (D.take j) ++ [Value.int .i64 (i : Int)] ++ nvals (D.drop j) = nvals (insAt D j i) := by simp [nvals, insAt]
                rw [e, show 0 + j + 1 + (i - j) = i + 1 by omega] at h3
                have el : j + 1 + (i - j) = i + 1 := by omega
                try rw [el]
                have hc3 := HC3.out
                refine ⟨i + 1, g3, cap3, insAt D j i, HI.out, by go_num, ?_, ⟨by first | exact owns_mono h3.1 BW.out | (rw [el]; exact owns_mono h3.1 BW.out), HBZ.out.2.1.trans (h3.2.1.mono BW.out), Nat.le_trans BW.out h3.2.2⟩, by omega, by rw [length_insAt D j i (by rw [HLEN.out]; exact HJ.out), HLEN.out], fun y => ?_, PW.out⟩
                · first | rfl | (congr 1 <;> omega) | (rw [show 0 + j + 1 + (i - j) = i + 1 by omega])
                · rw [mem_insAt, HMEM.out]; omega
              case measure => have := HI.out; simp [intOf] <;> omega
            · have hcj2 : ¬ (cap : Int) = (j : Int) := by omega
              go_wp2_with (first | ((with_reducible show wpList _ _ _ (Oper.mk _ (Op.call _) _ _ _ _ :: _) _ _); (refine wpList_pushL rfl (.tmp 51) (.tmp 54) 46 rfl B2 3 (.int .i64 0) 8 Tryd.underlying46 Tryd.info3 rfl _ 0 [] rfl wz HBa.out ⟨go, 0, none⟩ j _ (nvals (D.take j)) rfl LT1.out (NEWS1.out _ HBa.out.2.1) (one_nvals _) (by unfold maxLen; omega) (by omega) (fun v1 w1 hv1 => ?_); have HV1 := Lib.hid hv1; clear hv1)) | ((with_reducible show wpList _ _ _ (Oper.mk _ (Op.call _) _ _ _ _ :: _) _ _); (refine wpList_push rfl (.tmp 56) (.tmp 58) 46 rfl B2 3 (.int .i64 0) 8 Tryd.underlying46 Tryd.info3 rfl v1 (0 + j) ([] ++ nvals (D.take j)) rfl wz w1 _ (.int .i64 i) rfl rfl HV1.out rfl (by unfold maxLen; omega) (by omega) (fun v2 w2 hv2 _ => ?_); have HV2 := Lib.hid hv2; clear hv2)) | ((with_reducible show wpList _ _ _ (Oper.mk _ (Op.call _) _ _ _ _ :: _) _ _); (refine wpList_pushL rfl (.tmp 60) (.tmp 63) 46 rfl B2 3 (.int .i64 0) 8 Tryd.underlying46 Tryd.info3 rfl v2 (0 + j + 1) _ rfl wz HV2.out _ (i - j) _ (nvals (D.drop j)) rfl LT2.out (NEWS2.out _ HV2.out.2.1) (one_nvals _) (by unfold maxLen; omega) (by omega) (fun v3 w3 hv3 => ?_); obtain ⟨g3, cap3, ev3, _, _, hc3⟩ := hv3.form (by omega); subst ev3; have HC3 := Lib.hid hc3; have HV3 := Lib.hid hv3; clear hv3 hc3)) | ((with_reducible (refine wpList_atE HWa.out ?_))))
              go_roundw
              case rel =>
                have h3 := HV3.out
                have e : [] ++ nvals (D.take j) ++ [Value.int .i64 (i : Int)] ++ nvals (D.drop j) = nvals (insAt D j i) := by simp [nvals, insAt]
                rw [e, show 0 + j + 1 + (i - j) = i + 1 by omega] at h3
                have el : j + 1 + (i - j) = i + 1 := by omega
                try rw [el]
                have hc3 := HC3.out
                refine ⟨i + 1, g3, cap3, insAt D j i, HI.out, by go_num, ?_, ⟨by first | exact owns_mono h3.1 BW.out | (rw [el]; exact owns_mono h3.1 BW.out), HBZ.out.2.1.trans (h3.2.1.mono BW.out), Nat.le_trans BW.out h3.2.2⟩, by omega, by rw [length_insAt D j i (by rw [HLEN.out]; exact HJ.out), HLEN.out], fun y => ?_, PW.out⟩
                · first | rfl | (congr 1 <;> omega) | (rw [show 0 + j + 1 + (i - j) = i + 1 by omega])
                · rw [mem_insAt, HMEM.out]; omega
              case measure => have := HI.out; simp [intOf] <;> omega
        · have dj0 : decide (0 < j) = false := decide_eq_false hj0
          have dj1 : decide ((0 : Int) < (j : Int)) = false := decide_eq_false (by omega)
          have PW := Lib.hid (BAD.out (fun h => hj0 h.1)).2
          have HJ := Lib.hid hj
          clear hj hj0 hst hw hki BAD
          go_wp2_with fail
          go_quiet (fail)
          obtain ⟨wz, hwz⟩ : ∃ W, W = wr.drewN nq := ⟨_, rfl⟩
          rw [← hwz]
          have hz : wz = wo.drewN (q + nq) := by rw [hwz, HW.out, World.drewN_drewN]
          have HBZ := Lib.hid (show Buf B 3 (.slice (some ⟨go, 0, none⟩) i cap) i (nvals D) W1 wz by rw [hz]; exact HBUF.out.drewN _)
          obtain ⟨B2, hB2⟩ : ∃ b, b = wz.heap.size := ⟨_, rfl⟩
          have gob : go < B2 := by have := HGO.out.2; rw [hB2, hz]; exact this
          have CZ := Lib.hid (fun (W : World) (h : Below B2 wz W) t (ht : t < i) => (show W.cell? ⟨go, t, none⟩ = some (.int .i64 (at' D t)) by rw [h.cell (p := ⟨go, t, none⟩) gob, hz]; exact CO.out t ht))
          have LD := HLEN.out
          have NEWS1 := Lib.hid (fun (W : World) (h : Below B2 wz W) jj u (hu : (nvals (D.take j))[jj]? = some u) => (show W.cell? ((⟨go, 0, none⟩ : Addr).add jj) = some u by
            have hjj : jj < (nvals (D.take j)).length := (List.getElem?_eq_some_iff.1 hu).1
            have l2 : jj < j ∧ jj < i := by simp [nvals] at hjj; omega
            rw [Addr.add_mid, Nat.zero_add, CZ.out W h jj l2.2, ← hu, get_nvals _ _ (by simp; omega)]
            simp [at', List.getD, List.getElem?_take, l2.1]))
          have NEWS2 := Lib.hid (fun (W : World) (h : Below B2 wz W) jj u (hu : (nvals (D.drop j))[jj]? = some u) => (show W.cell? ((⟨go, j, none⟩ : Addr).add jj) = some u by
            have hjj : jj < (nvals (D.drop j)).length := (List.getElem?_eq_some_iff.1 hu).1
            have l2 : j + jj < i := by simp [nvals] at hjj; omega
            rw [Addr.add_mid, CZ.out W h (j + jj) l2, ← hu, get_nvals _ _ (by simp; omega)]
            simp [at', List.getD, List.getElem?_drop]))
          have LT1 := Lib.hid (show (nvals (D.take j)).length = j by have := HJ.out; simp [nvals]; omega)
          have LT2 := Lib.hid (show (nvals (D.drop j)).length = i - j by simp [nvals]; omega)
          obtain ⟨Wa, hWa⟩ : ∃ W, W = wz.alloc (.cells #[] 3) := ⟨_, rfl⟩
          have HBa := Lib.hid (show Buf B2 3 (.slice (some ⟨B2, 0, none⟩) 0 0) 0 ([] : List Value) wz Wa by rw [hWa]; exact Buf.lit (Below.refl _ _) (by rw [hB2]; exact Nat.le_refl _) #[] 0 rfl (by decide) B2 hB2)
          have HWa := Lib.hid hWa
          have ezz : wz.heap.size = B2 := hB2.symm
          have jle : (j : Int) ≤ (i : Int) := by have := HJ.out; omega
          have jle2 : j ≤ i := HJ.out
          have jcap : (j : Int) ≤ (cap : Int) := by have := HJ.out; have := HCAP.out; omega
          have jcap2 : j ≤ cap := by have := HJ.out; have := HCAP.out; omega
          have icap : (i : Int) ≤ (cap : Int) := by have := HCAP.out; omega
          have icap2 : i ≤ cap := HCAP.out
          have BW := Lib.hid (show B ≤ B2 by have := HGO.out.1; omega)
          have NEWS0 : Hid (cap = j → ∀ (ad : Addr) (W : World) jj u, (nvals (D.drop j))[jj]? = some u → W.cell? (ad.add jj) = some u) := Lib.hid (fun hc ad W jj u hu => by
            have hjj : jj < (nvals (D.drop j)).length := (List.getElem?_eq_some_iff.1 hu).1
            simp [nvals] at hjj
            have := HCAP.out
            omega)
          clear hz hwz hB2 LD hWa c3
          by_cases hcj : cap = j
          · have NEWS0 := Lib.hid (NEWS0.out hcj)
            go_wp2_with (first | ((with_reducible show wpList _ _ _ (Oper.mk _ (Op.call _) _ _ _ _ :: _) _ _); (refine wpList_pushL rfl (.tmp 51) (.tmp 54) 46 rfl B2 3 (.int .i64 0) 8 Tryd.underlying46 Tryd.info3 rfl _ 0 [] rfl wz HBa.out ⟨go, 0, none⟩ j _ (nvals (D.take j)) rfl LT1.out (NEWS1.out _ HBa.out.2.1) (one_nvals _) (by unfold maxLen; omega) (by omega) (fun v1 w1 hv1 => ?_); have HV1 := Lib.hid hv1; clear hv1)) | ((with_reducible show wpList _ _ _ (Oper.mk _ (Op.call _) _ _ _ _ :: _) _ _); (refine wpList_push rfl (.tmp 56) (.tmp 58) 46 rfl B2 3 (.int .i64 0) 8 Tryd.underlying46 Tryd.info3 rfl v1 (0 + j) ([] ++ nvals (D.take j)) rfl wz w1 _ (.int .i64 i) rfl rfl HV1.out rfl (by unfold maxLen; omega) (by omega) (fun v2 w2 hv2 _ => ?_); have HV2 := Lib.hid hv2; clear hv2)) | ((with_reducible show wpList _ _ _ (Oper.mk _ (Op.call _) _ _ _ _ :: _) _ _); (refine wpList_pushL rfl (.tmp 60) (.tmp 63) 46 rfl B2 3 (.int .i64 0) 8 Tryd.underlying46 Tryd.info3 rfl v2 (0 + j + 1) _ rfl wz HV2.out _ (i - j) _ (nvals (D.drop j)) rfl LT2.out (NEWS0.out _ _) (one_nvals _) (by unfold maxLen; omega) (by omega) (fun v3 w3 hv3 => ?_); obtain ⟨g3, cap3, ev3, _, _, hc3⟩ := hv3.form (by omega); subst ev3; have HC3 := Lib.hid hc3; have HV3 := Lib.hid hv3; clear hv3 hc3)) | ((with_reducible (refine wpList_atE HWa.out ?_))))
            go_roundw
            case rel =>
              have h3 := HV3.out
              have e : [] ++ nvals (D.take j) ++ [Value.int .i64 (i : Int)] ++ nvals (D.drop j) = nvals (insAt D j i) := by simp [nvals, insAt]
              rw [e, show 0 + j + 1 + (i - j) = i + 1 by omega] at h3
              have el : j + 1 + (i - j) = i + 1 := by omega
              try rw [el]
              have hc3 := HC3.out
              refine ⟨i + 1, g3, cap3, insAt D j i, HI.out, by go_num, ?_, ⟨by first | exact owns_mono h3.1 BW.out | (rw [el]; exact owns_mono h3.1 BW.out), HBZ.out.2.1.trans (h3.2.1.mono BW.out), Nat.le_trans BW.out h3.2.2⟩, by omega, by rw [length_insAt D j i (by rw [HLEN.out]; exact HJ.out), HLEN.out], fun y => ?_, PW.out⟩
              · first | rfl | (congr 1 <;> omega) | (rw [show 0 + j + 1 + (i - j) = i + 1 by omega])
              · rw [mem_insAt, HMEM.out]; omega
            case measure => have := HI.out; simp [intOf] <;> omega
          · have hcj2 : ¬ (cap : Int) = (j : Int) := by omega
            go_wp2_with (first | ((with_reducible show wpList _ _ _ (Oper.mk _ (Op.call _) _ _ _ _ :: _) _ _); (refine wpList_pushL rfl (.tmp 51) (.tmp 54) 46 rfl B2 3 (.int .i64 0) 8 Tryd.underlying46 Tryd.info3 rfl _ 0 [] rfl wz HBa.out ⟨go, 0, none⟩ j _ (nvals (D.take j)) rfl LT1.out (NEWS1.out _ HBa.out.2.1) (one_nvals _) (by unfold maxLen; omega) (by omega) (fun v1 w1 hv1 => ?_); have HV1 := Lib.hid hv1; clear hv1)) | ((with_reducible show wpList _ _ _ (Oper.mk _ (Op.call _) _ _ _ _ :: _) _ _); (refine wpList_push rfl (.tmp 56) (.tmp 58) 46 rfl B2 3 (.int .i64 0) 8 Tryd.underlying46 Tryd.info3 rfl v1 (0 + j) ([] ++ nvals (D.take j)) rfl wz w1 _ (.int .i64 i) rfl rfl HV1.out rfl (by unfold maxLen; omega) (by omega) (fun v2 w2 hv2 _ => ?_); have HV2 := Lib.hid hv2; clear hv2)) | ((with_reducible show wpList _ _ _ (Oper.mk _ (Op.call _) _ _ _ _ :: _) _ _); (refine wpList_pushL rfl (.tmp 60) (.tmp 63) 46 rfl B2 3 (.int .i64 0) 8 Tryd.underlying46 Tryd.info3 rfl v2 (0 + j + 1) _ rfl wz HV2.out _ (i - j) _ (nvals (D.drop j)) rfl LT2.out (NEWS2.out _ HV2.out.2.1) (one_nvals _) (by unfold maxLen; omega) (by omega) (fun v3 w3 hv3 => ?_); obtain ⟨g3, cap3, ev3, _, _, hc3⟩ := hv3.form (by omega); subst ev3; have HC3 := Lib.hid hc3; have HV3 := Lib.hid hv3; clear hv3 hc3)) | ((with_reducible (refine wpList_atE HWa.out ?_))))
            go_roundw
            case rel =>
              have h3 := HV3.out
              have e : [] ++ nvals (D.take j) ++ [Value.int .i64 (i : Int)] ++ nvals (D.drop j) = nvals (insAt D j i) := by simp [nvals, insAt]
              rw [e, show 0 + j + 1 + (i - j) = i + 1 by omega] at h3
              have el : j + 1 + (i - j) = i + 1 := by omega
              try rw [el]
              have hc3 := HC3.out
              refine ⟨i + 1, g3, cap3, insAt D j i, HI.out, by go_num, ?_, ⟨by first | exact owns_mono h3.1 BW.out | (rw [el]; exact owns_mono h3.1 BW.out), HBZ.out.2.1.trans (h3.2.1.mono BW.out), Nat.le_trans BW.out h3.2.2⟩, by omega, by rw [length_insAt D j i (by rw [HLEN.out]; exact HJ.out), HLEN.out], fun y => ?_, PW.out⟩
              · first | rfl | (congr 1 <;> omega) | (rw [show 0 + j + 1 + (i - j) = i + 1 by omega])
              · rw [mem_insAt, HMEM.out]; omega
            case measure => have := HI.out; simp [intOf] <;> omega
    · obtain rfl : i = n := by omega
      have ii : ¬ (i : Int) < (i : Int) := by omega
      have HF := Lib.hid (show go < wo.heap.size ∧ (∀ t, t < i → wo.cell? ⟨go, t, none⟩ = some (.int .i64 (at' D t))) ∧ D.length = i ∧ (∀ y, y ∈ D ↔ y < i) ∧ D.Pairwise (lt K) from ⟨(hbuf.1.lt go rfl).2, fun t ht => by rw [hbuf.1.cellAt t (by omega)]; exact get_nvals D t (by omega), hlen, hmem, hpw⟩)
      have HBL := Lib.hid (HB1.out.trans (hbuf.2.1.mono (by rw [← ez2]; exact HB1.out.size)))
      clear hin hi hbuf HBUF hcap hlen hmem hpw
      go_wp2_with fail
      go_ret2
      obtain ⟨x1, x2, x3, x4, x5⟩ := HF.out
      refine ⟨go, ⟨cap, rfl⟩, x1, D, x2, x3, x4, x5, ?_⟩
      have h := HBL.out
      first | exact h | (rw [ez] at h; exact h)
end Go.Proofs.YtnpkbjekodjcjaaDoor
