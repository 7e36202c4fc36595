/- The contract of the reference's Choose. -/
import Derived.Test.YtpghdiklleedaaaQ
set_option linter.all false
namespace Go.Proofs.Ytpghdiklleedaaa
open Go.RowKit Go.Fen Gf
set_option maxHeartbeats 400000

/-! ### shares that are appended, and where the list then lies -/
theorem wpList_push2' {ops : Array Oper} {rest : List Oper} {o : Oper} {a : Act} {Q : Exit → Act → World → Prop} (hgd : o.guard = none) (s x : Operand)
    (ho : o.op = .call { callee := .builtin .append, args := #[s, x], argTypes := #[31, 31] })
    (B : Nat) (v : Value) (M : List Shr) (hs : a.eval s = v) (W0 w0 w1 : World) (t : Shr) (ht : t.v.oneCell' = true) (hw1 : w1 = w0.alloc (.cells #[.int .u8 t.x.toNat, t.v] 33)) (hb : BufS B v M W0 w0)
    (g0 : Nat) (hg0 : g0 = w0.heap.size) (hx : a.eval x = .slice (some ⟨g0, 0, none⟩) 1 1) (h63 : M.length ≤ 1000000)
    (h : ∀ v' w', BufS B v' (M ++ [t]) W0 w' → w1.grownBy w' v.ownBlock → (v'.ownBlock = v.ownBlock ∨ v'.ownBlock = some w1.heap.size) → wpList Try.prog ops Q rest (a.put o.dst v') w') : wpList Try.prog ops Q (o :: rest) a w1 := by
  obtain ⟨i, hi, hzz⟩ := Option.map_eq_some_iff.1 Try.info33
  simp only [Prod.mk.injEq] at hzz
  subst hg0
  subst hw1
  have hb' := hb.alloc (.cells #[.int .u8 t.x.toNat, t.v] 33)
  refine wpList_append_lies _ hgd s x 31 ho B 33 i _ 2 32 Try.underlying31 hi hzz.1 hzz.2.1 hzz.2.2 rfl (by decide) v M.length (scells M) hs hb'.1 ⟨w0.heap.size, 0, none⟩ 1 1 [.int .u8 t.x.toNat, t.v] hx rfl ?_ ?_ (by decide) (by unfold maxLen; omega) (by omega) hb'.2.2 _ rfl ?_
  · intro j y hj
    match j, hj with
    | 0, hj => simp at hj; subst hj; simp [Addr.add]
    | 1, hj => simp at hj; subst hj; simp [Addr.add]
    | (j + 2), hj => simp at hj
  · intro y hy
    simp at hy
    rcases hy with rfl | rfl
    · rfl
    · exact ht
  · intro g cap w' ho' hg hat _
    refine h _ w' (hb'.grown ?_ hg) hg ?_
    · rw [scells_append]
      simpa [scells] using ho'
    · rcases hat with h | h
      · exact .inl h.symm
      · exact .inr (by rw [h]; rfl)
theorem step_push2 {ops : Array Oper} {o : Oper} {a : Act} {K : Act → World → Prop} {Q : Exit → Act → World → Prop} {E : Prop} (hgd : o.guard = none) (s x : Operand)
    (ho : o.op = .call { callee := .builtin .append, args := #[s, x], argTypes := #[31, 31] })
    (B : Nat) (v : Value) (M : List Shr) (hs : a.eval s = v) (W0 w0 w1 : World) (t : Shr) (ht : t.v.oneCell' = true) (hw1 : w1 = w0.alloc (.cells #[.int .u8 t.x.toNat, t.v] 33)) (hb : BufS B v M W0 w0)
    (g0 : Nat) (hg0 : g0 = w0.heap.size) (hx : a.eval x = .slice (some ⟨g0, 0, none⟩) 1 1) (h63 : M.length ≤ 1000000)
    (h : ∀ v' w', BufS B v' (M ++ [t]) W0 w' → w1.grownBy w' v.ownBlock → (v'.ownBlock = v.ownBlock ∨ v'.ownBlock = some w1.heap.size) → K (a.put o.dst v') w') : if Region.wanted o (yielded ops a.tmps) = true then Oper.wp Try.prog o a w1 K Q else E := by
  obtain ⟨i, hi, hzz⟩ := Option.map_eq_some_iff.1 Try.info33
  simp only [Prod.mk.injEq] at hzz
  subst hg0
  subst hw1
  have hb' := hb.alloc (.cells #[.int .u8 t.x.toNat, t.v] 33)
  refine step_append_lies _ hgd s x 31 ho B 33 i _ 2 32 Try.underlying31 hi hzz.1 hzz.2.1 hzz.2.2 rfl (by decide) v M.length (scells M) hs hb'.1 ⟨w0.heap.size, 0, none⟩ 1 1 [.int .u8 t.x.toNat, t.v] hx rfl ?_ ?_ (by decide) (by unfold maxLen; omega) (by omega) hb'.2.2 _ rfl ?_
  · intro j y hj
    match j, hj with
    | 0, hj => simp at hj; subst hj; simp [Addr.add]
    | 1, hj => simp at hj; subst hj; simp [Addr.add]
    | (j + 2), hj => simp at hj
  · intro y hy
    simp at hy
    rcases hy with rfl | rfl
    · rfl
    · exact ht
  · intro g cap w' ho' hg hat _
    refine h _ w' (hb'.grown ?_ hg) hg ?_
    · rw [scells_append]
      simpa [scells] using ho'
    · rcases hat with h | h
      · exact .inl h.symm
      · exact .inr (by rw [h]; rfl)

/-! ### rows of truth values -/
def lcells (l : List Bool) : Array Value := (l.map Value.bool).toArray
theorem get_lcells (l : List Bool) (i : Nat) (h : i < l.length) : (lcells l)[i]? = some (.bool (l.getD i false)) := by simp [lcells, h]
theorem set_lcells (l : List Bool) (i : Nat) (b : Bool) : (lcells l).setIfInBounds i (.bool b) = lcells (l.set i b) := by simp [lcells, List.map_set]
theorem madeL (n : Nat) : madeCells #[Value.bool false] n = lcells (List.replicate n false) := by
  apply Array.ext
  · simp [madeCells, lcells]
  · intro i h1 h2
    simp [madeCells, lcells, Nat.mod_one]
theorem Try.info4 : (Try.prog.info? 4).map (fun i => (i.zero, i.size, i.bytes)) = some (some (.bool false), 1, 1) := by kernel_rfl
/-- which numbers were taken -/
def uB (n : Nat) (acc : List Nat) : List Bool := (List.range n).map fun j => decide (j ∈ acc)
theorem length_uB (n : Nat) (acc : List Nat) : (uB n acc).length = n := by simp [uB]
theorem uB_nil (n : Nat) : uB n [] = List.replicate n false := by
  apply List.ext_getElem
  · simp [uB]
  · intro i h1 h2; simp [uB]
theorem uB_get (n : Nat) (acc : List Nat) (k : Nat) (h : k < n) : (uB n acc).getD k false = decide (k ∈ acc) := by simp [uB, List.getD, h]
theorem uB_set (n : Nat) (acc : List Nat) (k : Nat) : (uB n acc).set k true = uB n (acc ++ [k]) := by
  apply List.ext_getElem
  · simp [uB]
  · intro i h1 h2
    simp only [uB, List.getElem_set, List.getElem_map, List.getElem_range, List.mem_append, List.mem_singleton]
    by_cases e : k = i
    · subst e; simp
    · rw [if_neg e]
      congr 1
      apply propext
      constructor
      · exact fun h => .inl h
      · rintro (h | h)
        · exact h
        · exact absurd h.symm e

theorem chooseI_snoc (n : Nat) (os : List (BitVec 8)) (o : BitVec 8) : ∀ acc, chooseI n (os ++ [o]) acc = if o.toNat % n ∈ chooseI n os acc then chooseI n os acc else chooseI n os acc ++ [o.toNat % n] := by
  induction os with
  | nil => intro acc; rfl
  | cons p os ih => intro acc; rw [List.cons_append, chooseI, ih, chooseI]
/-- the shares that are chosen -/
def chooseS (L : List Shr) (order : List (BitVec 8)) : List Shr := if L.length = 0 then [] else (chooseI L.length order []).map fun i => L.getD i zs
theorem dat_chooseS (L : List Shr) (order : List (BitVec 8)) : dat (chooseS L order) = chooseL (dat L) order := by
  unfold chooseS chooseL
  rw [length_dat]
  split
  · rfl
  · rw [dat, List.map_map]
    apply List.map_congr_left
    intro i _
    rw [getD_dat]; rfl
/-- after k bytes of the order -/
def chAt (n : Nat) (order : List (BitVec 8)) (k : Nat) : List Nat := chooseI n (order.take k) []
theorem chAt_succ (n : Nat) (order : List (BitVec 8)) (k : Nat) (hk : k < order.length) : chAt n order (k + 1) = if (order.getD k 0#8).toNat % n ∈ chAt n order k then chAt n order k else chAt n order k ++ [(order.getD k 0#8).toNat % n] := by
  rw [chAt, List.take_succ_eq_append_getElem hk, chooseI_snoc]
  have : order[k] = order.getD k 0#8 := by simp [List.getD, hk]
  rw [this]; rfl
theorem chAt_ok (n : Nat) (hn : 0 < n) (order : List (BitVec 8)) (k : Nat) : (chAt n order k).Nodup ∧ ∀ i ∈ chAt n order k, i < n := chooseI_ok n hn _ [] (by simp) (by simp)
theorem chAt_len (n : Nat) (hn : 0 < n) (order : List (BitVec 8)) (k : Nat) : (chAt n order k).length ≤ n := by
  have h := chAt_ok n hn order k
  have := List.Nodup.length_le_of_subset h.1 (l₂ := List.range n) (fun i hi => List.mem_range.2 (h.2 i hi))
  simpa using this

theorem BufS.setOther {B g : Nat} {v : Value} {M : List Shr} {W0 w : World} (h : BufS B v M W0 w) (hne : v.ownBlock ≠ some g) (hg : B ≤ g) (i : Nat) (x : Value) : BufS B v M W0 (w.setCell ⟨g, i, none⟩ x) :=
  ⟨owns_grown h.1 (grown_set (grown_refl w (some g)) i x) (.inl hne), h.2.1.setCell (p := ⟨g, i, none⟩) hg x, Nat.le_trans h.2.2 (by simp [World.setCell])⟩
/-- an empty list that is not nil -/
theorem BufS.lit0 {B : Nat} {W0 w : World} (hB : B = w.heap.size) (hb : Below w.heap.size W0 w) : BufS B (.slice (some ⟨B, 0, none⟩) 0 0) [] W0 (w.alloc (.cells #[] 33)) := by
  subst hB
  refine ⟨?_, hb.alloc (Nat.le_refl _) _, by simp⟩
  have := World.ownsRow_made (e := 33) (size := 2) w #[] 0 (base := w.heap.size) (Nat.le_refl _) (by decide) (by simp)
  simpa [scells] using this
theorem BufS.lit1 {B : Nat} {w : World} {o : Obj} (hB : B = w.heap.size) (hlt : w.heap.size < (w.alloc o).heap.size) : BufS B (.slice (some ⟨B + 1, 0, none⟩) 0 0) [] w ((w.alloc o).alloc (.cells #[] 33)) := by
  subst hB
  refine ⟨?_, ((Below.refl _ _).alloc (Nat.le_refl _) _).alloc (by simp) _, by simp; omega⟩
  have := World.ownsRow_made (e := 33) (size := 2) (w.alloc o) #[] 0 (base := w.heap.size) (by simp) (by decide) (by simp)
  simpa [scells] using this
theorem choose_done {n m k B : Nat} {L : List Shr} {order : List (BitVec 8)} {a : Option Addr} {v : Value} {w wr : World} (hn : n = L.length) (hm : m = order.length) (hb : BufS B v ((chAt n order k).map fun i => L.getD i zs) w wr) (h0 : n = 0 → k = 0) (h : n = 0 ∨ m ≤ k) (hs : Shs w a L) (hB : B = w.heap.size) :
    ∃ a' c', v = .slice a' (chooseS L order).length c' ∧ (chooseS L order).length ≤ c' ∧ Shs wr a' (chooseS L order) ∧ Below w.heap.size w wr := by
  have e : (chAt n order k).map (fun i => L.getD i zs) = chooseS L order := by
    by_cases hn0 : n = 0
    · rw [chooseS, if_pos (by omega), h0 hn0]; rfl
    · rw [chooseS, if_neg (by omega), chAt, List.take_of_length_le (by omega), hn]
  have hmem : ∀ s ∈ chooseS L order, ∃ j, j < L.length ∧ s = L.getD j zs := fun s hs => by
    rw [← e] at hs
    obtain ⟨j, hj, rfl⟩ := List.mem_map.1 hs
    refine ⟨j, ?_, rfl⟩
    by_cases hn0 : n = 0
    · rw [h0 hn0] at hj; simp [chAt, chooseI] at hj
    · rw [← hn]; exact (chAt_ok n (by omega) order k).2 j hj
  rw [e] at hb
  obtain ⟨a', c', ev, hc', hsh⟩ := Shs.of_buf hb (fun i hi => by
    obtain ⟨j, hj, e2⟩ := hmem _ (getD_mem _ i hi)
    rw [e2]
    exact (hs.svs j hj).below hb.2.1 (Nat.le_of_eq hB.symm))
  exact ⟨a', c', ev, hc', hsh, by rw [← hB]; exact hb.2.1⟩

set_option maxHeartbeats 2000000 in
theorem choose_any (a ao : Option Addr) (L : List Shr) (order : List (BitVec 8)) (c co : Nat) (hL : L.length ≤ 1000) (hO : order.length ≤ 1000000) (w : World) (hs : Shs w a L) (ho : Bs w ao order) :
    Calls Try.prog 25 #[.slice a L.length c, .slice ao order.length co] w fun e w' => ∃ a' c', e = .returned (.slice a' (chooseS L order).length c') ∧ (chooseS L order).length ≤ c' ∧ Shs w' a' (chooseS L order) ∧ Below w.heap.size w w' := by
  obtain ⟨n, hn⟩ : ∃ n, n = L.length := ⟨_, rfl⟩
  obtain ⟨m, hm⟩ : ∃ m, m = order.length := ⟨_, rfl⟩
  rw [← hn] at hL ⊢
  rw [← hm] at hO ⊢
  have N := Lib.hid hn
  have M := Lib.hid hm
  have HS := Lib.hid hs
  have HO := Lib.hid ho
  have hmk := run_make_row' (P := Try.prog) 65 4 (.bool false) 1 Try.underlying65 Try.info4 rfl .i64 .i64 n (by omega) (by omega)
  rw [madeL] at hmk
  obtain ⟨B, hB⟩ : ∃ B, B = w.heap.size := ⟨_, rfl⟩
  have HB := Lib.hid hB
  clear hn hm hs ho hB
  go_enter Try.func25, Try.ntmps25
  go_wp2_with fail
  go_region
  · go_wp2_with fail
    have r0 : Row (((w.alloc (.cells #[] 33)).alloc (.cells (lcells (List.replicate n false)) 4)).drew) (B + 1) 4 (lcells (uB n (chAt n order 0))) := by rw [show chAt n order 0 = [] from rfl, uB_nil]; exact (Row.new' _ _ (by simp [HB.out])).drew
    have b0 : BufS B (.slice (some ⟨B, 0, none⟩) 0 0) ((chAt n order 0).map fun i => L.getD i zs) w (((w.alloc (.cells #[] 33)).alloc (.cells (lcells (List.replicate n false)) 4)).drew) := BufS.drewN (BufS.alloc (BufS.lit0 HB.out (Below.refl _ _)) _) 1
    rw [← HB.out]
    have HB2 := HB.out
    obtain ⟨W1, hW1⟩ : ∃ W, W = ((w.alloc (.cells #[] 33)).alloc (.cells (lcells (List.replicate n false)) 4)).drew := ⟨_, rfl⟩
    rw [← hW1] at r0 b0 ⊢
    clear hW1 hmk HB2
    go_loopw [5, 7, 8] (fun v i _ wr => ∃ k : Nat, k ≤ m ∧ i = .int .i64 k ∧ (n = 0 → k = 0) ∧ BufS B v ((chAt n order k).map fun i => L.getD i zs) w wr ∧ Row wr (B + 1) 4 (lcells (uB n (chAt n order k))) ∧ v.ownBlock ≠ some (B + 1)) (fun _ i _ _ => m - (intOf i).toNat)
    case atStart => exact ⟨0, by omega, rfl, fun _ => rfl, b0, r0, by simp [Value.ownBlock]⟩
    case round =>
      clear r0 b0
      obtain ⟨k, hk, rfl, hn0, hb, r, hne⟩ := hrel
      by_cases hkm : k < m
      · have ki : (k : Int) < (m : Int) := by omega
        by_cases hpos : 0 < n
        · have npos : (0 : Int) < (n : Int) := by omega
          have nne : ¬ (n : Int) = 0 := by omega
          have nne2 : ((n : Int) == 0) = false := by simp; omega
          obtain ⟨go, oo, eao, ko⟩ : ∃ g o, ao = some ⟨g, o, none⟩ ∧ w.cell? ⟨g, o + k, none⟩ = some (.int .u8 (order.getD k 0#8).toNat) := by
            rcases HO.out with h | ⟨g, o, e, hc⟩
            · have := M.out; rw [h] at this; simp at this; omega
            · exact ⟨g, o, e, hc k (by rw [← M.out]; exact hkm)⟩
          subst eao
          have co := (hb.2.1.cell (p := ⟨go, oo + k, none⟩) (by show go < B; rw [HB.out]; exact block_lt_of_cell (a := ⟨go, oo + k, none⟩) ko)).trans ko
          have hsucc := chAt_succ n order k (by rw [← M.out]; exact hkm)
          have hok := chAt_len n hpos order k
          obtain ⟨kk, hkk⟩ : ∃ kk, kk = (order.getD k 0#8).toNat % n := ⟨_, rfl⟩
          have hkn : kk < n := by rw [hkk]; exact Nat.mod_lt _ hpos
          have ob256 : (order.getD k 0#8).toNat < 256 := (order.getD k 0#8).isLt
          have hrem : (((order.getD k 0#8).toNat : Nat) : Int).tmod (n : Int) = (kk : Int) := by rw [hkk]; rfl
          rw [← hkk] at hsucc
          generalize (order.getD k 0#8).toNat = ob at *
          have kki : (kk : Int) < (n : Int) := by omega
          have cu := (r.cell kk).trans (get_lcells (uB n (chAt n order k)) kk (by rw [length_uB]; exact hkn))
          rw [uB_get _ _ _ hkn] at cu
          have fu := r.frozen kk
          have HSU := Lib.hid hsucc
          have HOK := Lib.hid hok
          have HKK := Lib.hid hkk
          have Hb := Lib.hid hb
          have R := Lib.hid r
          clear hsucc hok hkk hb r ko hn0
          by_cases hmem : kk ∈ chAt n order k
          · rw [decide_eq_true hmem] at cu
            have hs2 := HSU.out
            rw [if_pos hmem] at hs2
            have HS2 := Lib.hid hs2
            clear hs2 hmem
            go_wp2_with fail
            go_roundw
            case rel => exact ⟨k + 1, by omega, by go_num, fun h => by omega, by rw [HS2.out]; exact Hb.out, by rw [HS2.out]; exact R.out, hne⟩
            case measure => simp [intOf] <;> omega
          · rw [decide_eq_false hmem] at cu
            have hs2 := HSU.out
            rw [if_neg hmem] at hs2
            have HS2 := Lib.hid hs2
            obtain ⟨g, o, ea, hc⟩ : ∃ g o, a = some ⟨g, o, none⟩ ∧ ∀ i, i < L.length → w.cell? ⟨g, o + i * 2, none⟩ = some (.int .u8 (L.getD i zs).x.toNat) ∧ w.cell? ⟨g, o + i * 2 + 1, none⟩ = some (L.getD i zs).v := by
              rcases HS.out.cells with h | h
              · have := N.out; rw [h] at this; simp at this; omega
              · exact h
            subst ea
            obtain ⟨av, cv, ev, hcv, hbs⟩ := HS.out.svs kk (by rw [← N.out]; exact hkn)
            have hgw : g < w.heap.size := block_lt_of_cell (a := ⟨g, o + kk * 2, none⟩) (hc kk (by rw [← N.out]; exact hkn)).1
            have hr : Hid (∀ wr, Below B w wr → wr.rangeAt g (o + kk * 2) [.int .u8 (L.getD kk zs).x.toNat, .slice av (L.getD kk zs).b.length cv]) := Lib.hid fun wr hb j v hv => by
              have hcc := hc kk (by rw [← N.out]; exact hkn)
              rw [ev] at hcc
              match j, hv with
              | 0, hv => simp at hv; subst hv; exact (hb.cell (p := ⟨g, o + kk * 2, none⟩) (by show g < B; rw [HB.out]; exact hgw)).trans hcc.1
              | 1, hv => simp at hv; subst hv; exact (hb.cell (p := ⟨g, o + kk * 2 + 1, none⟩) (by show g < B; rw [HB.out]; exact hgw)).trans hcc.2
              | (j + 2), hv => simp at hv
            have hsh : Hid (L.getD kk zs = Shr.mk (L.getD kk zs).x (.slice av (L.getD kk zs).b.length cv) (L.getD kk zs).b) := Lib.hid (by rw [← ev])
            generalize hlb : (L.getD kk zs).b.length = lb at *
            generalize hxx : (L.getD kk zs).x = x at *
            have Hb2 : Hid (BufS B u5 ((chAt n order k).map fun i => L.getD i zs) w (wr.setCell ⟨B + 1, kk, none⟩ (.bool true))) := Lib.hid (BufS.setOther Hb.out hne (by omega) kk _)
            have R2 : Hid (Row (wr.setCell ⟨B + 1, kk, none⟩ (.bool true)) (B + 1) 4 (lcells (uB n (chAt n order k ++ [kk])))) := Lib.hid (by rw [← uB_set, ← set_lcells]; exact R.out.set kk _)
            have hne2 := Lib.hid hne
            have lenA : (List.map (fun i => L.getD i zs) (chAt n order k)).length ≤ 1000 := by rw [List.length_map]; have := HOK.out; omega
            clear hc hbs ev hcv hlb hxx hmem hs2 hne
            generalize hA : List.map (fun i => L.getD i zs) (chAt n order k) = A at *
            have HA := Lib.hid hA
            clear hA
            go_wp2_with (first | ((with_reducible show wpList _ _ _ (Oper.mk _ (Op.load _ _) _ _ _ _ :: _) _ _); refine wpList_load_mid rfl 33 (.tmp 43) rfl g (o + kk * 2) rfl [.int .u8 x.toNat, .slice av lb cv] _ (hr.out _ Hb2.out.2.1) Try.underlying33 rfl Try.n33 ?_) | ((with_reducible show wpList _ _ _ (Oper.mk _ (Op.call _) _ _ _ _ :: _) _ _); refine wpList_push2' rfl (.tmp 40) (.tmp 45) rfl B u5 A rfl w (wr.setCell ⟨B + 1, kk, none⟩ (.bool true)) _ (L.getD kk zs) (by rw [hsh.out]; rfl) (by rw [hsh.out]) Hb2.out wr.heap.size (by simp [World.setCell]) rfl (by omega) (fun v' w' hv' hg hown => ?_)))
            go_roundw
            case rel =>
              refine ⟨k + 1, by omega, by go_num, fun h => by omega, ?_, ?_, ?_⟩
              · rw [HS2.out, List.map_append, HA.out]; exact hv'
              · rw [HS2.out]
                exact Row.grown (R2.out.alloc _) hg (fun e => hne2.out e.symm)
              · rcases hown with e | e
                · rw [e]; exact hne2.out
                · rw [e]
                  intro e2
                  have := (R2.out.alloc (.cells #[.int .u8 x.toNat, .slice av lb cv] 33)).lt
                  have e3 := Option.some.inj e2
                  omega
            case measure => simp [intOf] <;> omega
        · have n0 : n = 0 := by omega
          have npos : ¬ (0 : Int) < (n : Int) := by omega
          have npos2 : decide ((0 : Int) < (n : Int)) = false := decide_eq_false npos
          have hk0 := hn0 n0
          have hfin := choose_done N.out M.out hb hn0 (.inl n0) HS.out HB.out
          clear hb r hne n0 hn0 hk0
          obtain ⟨a', c', ev, hc', hsh, hbl⟩ := hfin
          subst ev
          go_wp2_with fail
          go_ret
          exact ⟨a', c', rfl, hc', hsh, hbl⟩
      · have ki : ¬ (k : Int) < (m : Int) := by omega
        have ki2 : decide ((k : Int) < (m : Int)) = false := decide_eq_false ki
        have hfin := choose_done N.out M.out hb hn0 (.inr (by omega)) HS.out HB.out
        clear hb r hne hn0 hkm
        obtain ⟨a', c', ev, hc', hsh, hbl⟩ := hfin
        subst ev
        go_wp2_with fail
        go_ret
        exact ⟨a', c', rfl, hc', hsh, hbl⟩
  · go_wp2_with fail
    have r0 : Row (((w.alloc (.cells (lcells (List.replicate n false)) 4)).alloc (.cells #[] 33)).drew) (B) 4 (lcells (uB n (chAt n order 0))) := by rw [show chAt n order 0 = [] from rfl, uB_nil]; exact ((Row.new' _ _ HB.out).alloc _).drew
    have b0 : BufS B (.slice (some ⟨B + 1, 0, none⟩) 0 0) ((chAt n order 0).map fun i => L.getD i zs) w (((w.alloc (.cells (lcells (List.replicate n false)) 4)).alloc (.cells #[] 33)).drew) := BufS.drewN (BufS.lit1 HB.out (Row.lt (Row.new w 4 (lcells (List.replicate n false)))) ) 1
    rw [← HB.out]
    have HB2 := HB.out
    obtain ⟨W1, hW1⟩ : ∃ W, W = ((w.alloc (.cells (lcells (List.replicate n false)) 4)).alloc (.cells #[] 33)).drew := ⟨_, rfl⟩
    rw [← hW1] at r0 b0 ⊢
    clear hW1 hmk HB2
    go_loopw [5, 7, 8] (fun v i _ wr => ∃ k : Nat, k ≤ m ∧ i = .int .i64 k ∧ (n = 0 → k = 0) ∧ BufS B v ((chAt n order k).map fun i => L.getD i zs) w wr ∧ Row wr (B) 4 (lcells (uB n (chAt n order k))) ∧ v.ownBlock ≠ some (B)) (fun _ i _ _ => m - (intOf i).toNat)
    case atStart => exact ⟨0, by omega, rfl, fun _ => rfl, b0, r0, by simp [Value.ownBlock]⟩
    case round =>
      clear r0 b0
      obtain ⟨k, hk, rfl, hn0, hb, r, hne⟩ := hrel
      by_cases hkm : k < m
      · have ki : (k : Int) < (m : Int) := by omega
        by_cases hpos : 0 < n
        · have npos : (0 : Int) < (n : Int) := by omega
          have nne : ¬ (n : Int) = 0 := by omega
          have nne2 : ((n : Int) == 0) = false := by simp; omega
          obtain ⟨go, oo, eao, ko⟩ : ∃ g o, ao = some ⟨g, o, none⟩ ∧ w.cell? ⟨g, o + k, none⟩ = some (.int .u8 (order.getD k 0#8).toNat) := by
            rcases HO.out with h | ⟨g, o, e, hc⟩
            · have := M.out; rw [h] at this; simp at this; omega
            · exact ⟨g, o, e, hc k (by rw [← M.out]; exact hkm)⟩
          subst eao
          have co := (hb.2.1.cell (p := ⟨go, oo + k, none⟩) (by show go < B; rw [HB.out]; exact block_lt_of_cell (a := ⟨go, oo + k, none⟩) ko)).trans ko
          have hsucc := chAt_succ n order k (by rw [← M.out]; exact hkm)
          have hok := chAt_len n hpos order k
          obtain ⟨kk, hkk⟩ : ∃ kk, kk = (order.getD k 0#8).toNat % n := ⟨_, rfl⟩
          have hkn : kk < n := by rw [hkk]; exact Nat.mod_lt _ hpos
          have ob256 : (order.getD k 0#8).toNat < 256 := (order.getD k 0#8).isLt
          have hrem : (((order.getD k 0#8).toNat : Nat) : Int).tmod (n : Int) = (kk : Int) := by rw [hkk]; rfl
          rw [← hkk] at hsucc
          generalize (order.getD k 0#8).toNat = ob at *
          have kki : (kk : Int) < (n : Int) := by omega
          have cu := (r.cell kk).trans (get_lcells (uB n (chAt n order k)) kk (by rw [length_uB]; exact hkn))
          rw [uB_get _ _ _ hkn] at cu
          have fu := r.frozen kk
          have HSU := Lib.hid hsucc
          have HOK := Lib.hid hok
          have HKK := Lib.hid hkk
          have Hb := Lib.hid hb
          have R := Lib.hid r
          clear hsucc hok hkk hb r ko hn0
          by_cases hmem : kk ∈ chAt n order k
          · rw [decide_eq_true hmem] at cu
            have hs2 := HSU.out
            rw [if_pos hmem] at hs2
            have HS2 := Lib.hid hs2
            clear hs2 hmem
            go_wp2_with fail
            go_roundw
            case rel => exact ⟨k + 1, by omega, by go_num, fun h => by omega, by rw [HS2.out]; exact Hb.out, by rw [HS2.out]; exact R.out, hne⟩
            case measure => simp [intOf] <;> omega
          · rw [decide_eq_false hmem] at cu
            have hs2 := HSU.out
            rw [if_neg hmem] at hs2
            have HS2 := Lib.hid hs2
            obtain ⟨g, o, ea, hc⟩ : ∃ g o, a = some ⟨g, o, none⟩ ∧ ∀ i, i < L.length → w.cell? ⟨g, o + i * 2, none⟩ = some (.int .u8 (L.getD i zs).x.toNat) ∧ w.cell? ⟨g, o + i * 2 + 1, none⟩ = some (L.getD i zs).v := by
              rcases HS.out.cells with h | h
              · have := N.out; rw [h] at this; simp at this; omega
              · exact h
            subst ea
            obtain ⟨av, cv, ev, hcv, hbs⟩ := HS.out.svs kk (by rw [← N.out]; exact hkn)
            have hgw : g < w.heap.size := block_lt_of_cell (a := ⟨g, o + kk * 2, none⟩) (hc kk (by rw [← N.out]; exact hkn)).1
            have hr : Hid (∀ wr, Below B w wr → wr.rangeAt g (o + kk * 2) [.int .u8 (L.getD kk zs).x.toNat, .slice av (L.getD kk zs).b.length cv]) := Lib.hid fun wr hb j v hv => by
              have hcc := hc kk (by rw [← N.out]; exact hkn)
              rw [ev] at hcc
              match j, hv with
              | 0, hv => simp at hv; subst hv; exact (hb.cell (p := ⟨g, o + kk * 2, none⟩) (by show g < B; rw [HB.out]; exact hgw)).trans hcc.1
              | 1, hv => simp at hv; subst hv; exact (hb.cell (p := ⟨g, o + kk * 2 + 1, none⟩) (by show g < B; rw [HB.out]; exact hgw)).trans hcc.2
              | (j + 2), hv => simp at hv
            have hsh : Hid (L.getD kk zs = Shr.mk (L.getD kk zs).x (.slice av (L.getD kk zs).b.length cv) (L.getD kk zs).b) := Lib.hid (by rw [← ev])
            generalize hlb : (L.getD kk zs).b.length = lb at *
            generalize hxx : (L.getD kk zs).x = x at *
            have Hb2 : Hid (BufS B u5 ((chAt n order k).map fun i => L.getD i zs) w (wr.setCell ⟨B, kk, none⟩ (.bool true))) := Lib.hid (BufS.setOther Hb.out hne (by omega) kk _)
            have R2 : Hid (Row (wr.setCell ⟨B, kk, none⟩ (.bool true)) (B) 4 (lcells (uB n (chAt n order k ++ [kk])))) := Lib.hid (by rw [← uB_set, ← set_lcells]; exact R.out.set kk _)
            have hne2 := Lib.hid hne
            have lenA : (List.map (fun i => L.getD i zs) (chAt n order k)).length ≤ 1000 := by rw [List.length_map]; have := HOK.out; omega
            clear hc hbs ev hcv hlb hxx hmem hs2 hne
            generalize hA : List.map (fun i => L.getD i zs) (chAt n order k) = A at *
            have HA := Lib.hid hA
            clear hA
            go_wp2_with (first | ((with_reducible show wpList _ _ _ (Oper.mk _ (Op.load _ _) _ _ _ _ :: _) _ _); refine wpList_load_mid rfl 33 (.tmp 43) rfl g (o + kk * 2) rfl [.int .u8 x.toNat, .slice av lb cv] _ (hr.out _ Hb2.out.2.1) Try.underlying33 rfl Try.n33 ?_) | ((with_reducible show wpList _ _ _ (Oper.mk _ (Op.call _) _ _ _ _ :: _) _ _); refine wpList_push2' rfl (.tmp 40) (.tmp 45) rfl B u5 A rfl w (wr.setCell ⟨B, kk, none⟩ (.bool true)) _ (L.getD kk zs) (by rw [hsh.out]; rfl) (by rw [hsh.out]) Hb2.out wr.heap.size (by simp [World.setCell]) rfl (by omega) (fun v' w' hv' hg hown => ?_)))
            go_roundw
            case rel =>
              refine ⟨k + 1, by omega, by go_num, fun h => by omega, ?_, ?_, ?_⟩
              · rw [HS2.out, List.map_append, HA.out]; exact hv'
              · rw [HS2.out]
                exact Row.grown (R2.out.alloc _) hg (fun e => hne2.out e.symm)
              · rcases hown with e | e
                · rw [e]; exact hne2.out
                · rw [e]
                  intro e2
                  have := (R2.out.alloc (.cells #[.int .u8 x.toNat, .slice av lb cv] 33)).lt
                  have e3 := Option.some.inj e2
                  omega
            case measure => simp [intOf] <;> omega
        · have n0 : n = 0 := by omega
          have npos : ¬ (0 : Int) < (n : Int) := by omega
          have npos2 : decide ((0 : Int) < (n : Int)) = false := decide_eq_false npos
          have hk0 := hn0 n0
          have hfin := choose_done N.out M.out hb hn0 (.inl n0) HS.out HB.out
          clear hb r hne n0 hn0 hk0
          obtain ⟨a', c', ev, hc', hsh, hbl⟩ := hfin
          subst ev
          go_wp2_with fail
          go_ret
          exact ⟨a', c', rfl, hc', hsh, hbl⟩
      · have ki : ¬ (k : Int) < (m : Int) := by omega
        have ki2 : decide ((k : Int) < (m : Int)) = false := decide_eq_false ki
        have hfin := choose_done N.out M.out hb hn0 (.inr (by omega)) HS.out HB.out
        clear hb r hne hn0 hkm
        obtain ⟨a', c', ev, hc', hsh, hbl⟩ := hfin
        subst ev
        go_wp2_with fail
        go_ret
        exact ⟨a', c', rfl, hc', hsh, hbl⟩
end Go.Proofs.Ytpghdiklleedaaa
