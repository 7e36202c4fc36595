/- The contract of coordinate: the numbers of a field, collected; the closure over them. -/
import Derived.Test.YtnpkbjekodjcjaaDoorL
import Derived.Test.YtnpkbjekodjcjaaDoorKit4
set_option linter.all false
namespace Go.Proofs.YtnpkbjekodjcjaaDoor
open Go.RowKit Go.Fen Hil
set_option linter.unusedVariables false
set_option maxHeartbeats 4000000

/-- a list of rows lies in memory -/
def RowsM (w : World) (a : Option Addr) (L : List (List (Int × Int))) : Prop :=
  (a = none ∧ L.length = 0) ∨ ∃ g o, a = some ⟨g, o, none⟩ ∧ g < w.heap.size ∧ ∀ i, i < L.length → ∃ v, w.cell? ⟨g, o + i, none⟩ = some v ∧ RowM w v (L.getD i [])
theorem RowsM.below {w w' : World} {B : Nat} {a : Option Addr} {L : List (List (Int × Int))} (h : RowsM w a L) (hb : Below B w w') (hB : w.heap.size ≤ B) : RowsM w' a L := by
  rcases h with h | ⟨g, o, ea, hg, hc⟩
  · exact .inl h
  · refine .inr ⟨g, o, ea, Nat.lt_of_lt_of_le hg hb.size, fun i hi => ?_⟩
    obtain ⟨v, h1, h2⟩ := hc i hi
    exact ⟨v, (hb.cell (p := ⟨g, o + i, none⟩) (Nat.lt_of_lt_of_le hg hB)).trans h1, h2.below hb hB⟩

def ivs (xs : List Int) : List Value := xs.map fun x => .int .i64 x
theorem ivs_snoc (xs : List Int) (x : Int) : ivs xs ++ [.int .i64 x] = ivs (xs ++ [x]) := by simp [ivs]

/-- the variable in block gv holds a slice of numbers of the call's own; nothing else has turned since V0 -/
def Acc (V0 : World) (gv : Nat) (v : Value) (xs : List Int) (w : World) : Prop :=
  w.ownsRow V0.heap.size 2 1 v xs.length (ivs xs) ∧ Row w gv 61 #[v] ∧ V0.grownBy w (some gv)
theorem Acc.alloc {V0 w : World} {gv : Nat} {v : Value} {xs : List Int} (h : Acc V0 gv v xs w) (o : Obj) : Acc V0 gv v xs (w.alloc o) :=
  ⟨owns_grown h.1 (World.grownBy_alloc w o none) (.inr rfl), h.2.1.alloc o, grown_alloc h.2.2 o⟩
theorem Acc.call {V0 w w' : World} {gv : Nat} {v : Value} {xs : List Int} (h : Acc V0 gv v xs w) (hb : Below w.heap.size w w') : Acc V0 gv v xs w' :=
  ⟨owns_below h.1 hb (Nat.le_refl _), h.2.1.below hb h.2.1.lt, grown_below h.2.2 hb h.2.2.size⟩
theorem Acc.bel {V0 w : World} {gv : Nat} {v : Value} {xs : List Int} (h : Acc V0 gv v xs w) {B : Nat} (hB : B ≤ gv) (hV : B ≤ V0.heap.size) : Below B V0 w :=
  ⟨h.2.2.os, h.2.2.tape, h.2.2.output, h.2.2.size, fun j hj => h.2.2.block j (Nat.lt_of_lt_of_le hj hV) (by intro e; injection e with e; omega)⟩
theorem Acc.push {V0 w w' : World} {gv : Nat} {v v' : Value} {xs : List Int} {x : Int} (h : Acc V0 gv v xs w) (hV : gv < V0.heap.size) (hb : Buf V0.heap.size 2 v' (xs.length + 1) (ivs xs ++ [.int .i64 x]) w w') :
    Acc V0 gv v' (xs ++ [x]) (w'.setCell ⟨gv, 0, none⟩ v') := by
  have r := h.2.1.below hb.2.1 hV
  refine ⟨?_, ?_, ?_⟩
  · have := owns_grown hb.1 (grown_set (grown_refl w' (some gv)) 0 v') (.inl (fun e => by have := (hb.1.lt gv e).1; omega))
    rw [← ivs_snoc, List.length_append]
    exact this
  · exact r.set 0 v'
  · exact grown_set (grown_below h.2.2 hb.2.1 (Nat.le_refl _)) 0 v'

/-- the numbers of a field in the first k rows -/
def numsR (L : List (List (Int × Int))) (id : Int) : Nat → List Int
  | 0 => []
  | k + 1 => if (numR (L.getD k []) id).2 = true then numsR L id k ++ [(numR (L.getD k []) id).1] else numsR L id k
theorem length_nums (L : List (List (Int × Int))) (id : Int) : ∀ k, (numsR L id k).length ≤ k
  | 0 => Nat.le_refl _
  | k + 1 => by
    rw [numsR]
    have := length_nums L id k
    split
    · simp; omega
    · omega

theorem Tryd.z76 : (Tryd.prog.info? 76).bind (·.zero) = some (.agg #[.slice none 0 0]) := by kernel_rfl
theorem Tryd.n76 : (Tryd.prog.info? 76).map (·.size) = some 1 := by kernel_rfl
theorem Tryd.info2 : (Tryd.prog.info? 2).map (fun i => (i.zero, i.size, i.bytes)) = some (some (.int .i64 0), 1, 8) := by kernel_rfl
theorem one_slice (a : Option Addr) (n c : Nat) : (#[.slice a n c] : Array Value).all (·.oneCell') = true := by simp [Value.oneCell']

/-- what coordinate's closure stands on -/
def CoM (w : World) (lb : Array Value) (id ord : Int) (xs : List Int) : Prop :=
  ∃ b1 b2 b3 a n c, lb = #[.pointer (some ⟨b1, 0, none⟩), .pointer (some ⟨b2, 0, none⟩), .pointer (some ⟨b3, 0, none⟩)] ∧ w.cell? ⟨b1, 0, none⟩ = some (.int .i64 id) ∧ w.cell? ⟨b2, 0, none⟩ = some (.slice a n c) ∧ w.cell? ⟨b3, 0, none⟩ = some (.int .i64 ord) ∧ n = xs.length ∧ IntsM w a xs

theorem ints_of_own {w : World} {base n : Nat} {e : TypeId} {v : Value} {xs : List Int} (h : w.ownsRow base e 1 v n (ivs xs)) (hn : n = xs.length) : ∃ a c, v = .slice a n c ∧ IntsM w a xs := by
  rcases h.2 with ⟨hv, h0⟩ | ⟨g, cap, cur, hv, hbg, hg, r⟩
  · subst h0; exact ⟨none, 0, hv, .inl ⟨rfl, by omega⟩⟩
  · refine ⟨some ⟨g, 0, none⟩, cap, hv, .inr ⟨g, 0, rfl, (Array.getElem?_eq_some_iff.1 hg).1, fun i hi => ?_⟩⟩
    subst hv
    have := h.cellAt i (by omega)
    rw [Nat.zero_add, this]
    simp [ivs, hi]

theorem coordinate_any (a : Option Addr) (L : List (List (Int × Int))) (n c : Nat) (id ord : Int) (w : World) (en : n = L.length) (hn : n ≤ 1000000) (hM : RowsM w a L) :
    Calls Tryd.prog 32 #[.slice a n c, .int .i64 id, .int .i64 ord] w fun e w' => ∃ lb, e = .returned (.func (.func 42) #[] lb) ∧ CoM w' lb id ord (numsR L id n) ∧ Below w.heap.size w w' := by
  obtain ⟨g, eg⟩ : ∃ g, g = w.heap.size := ⟨_, rfl⟩
  obtain ⟨W0, hW0⟩ : ∃ W, W = w.alloc (.cells #[.int .i64 id] 3) := ⟨_, rfl⟩
  obtain ⟨W1, hW1⟩ : ∃ W, W = W0.alloc (.cells #[.int .i64 ord] 3) := ⟨_, rfl⟩
  obtain ⟨V0, hV0⟩ : ∃ W, W = W1.alloc (.cells #[.slice none 0 0] 61) := ⟨_, rfl⟩
  have z0 : W0.heap.size = g + 1 := by rw [hW0, eg]; simp
  have z1 : W1.heap.size = g + 1 + 1 := by rw [hW1, World.size_alloc, z0]
  have zV : V0.heap.size = g + 1 + 1 + 1 := by rw [hV0, World.size_alloc, z1]
  have hb : Below w.heap.size w V0 := by rw [hV0, hW1, hW0]; exact (((Below.refl _ _).alloc (Nat.le_refl _) _).alloc (by simp) _).alloc (by simp <;> omega) _
  have R0 : Row V0 g 3 #[.int .i64 id] := by rw [hV0, hW1, hW0, eg]; exact ((Row.new w 3 _).alloc _).alloc _
  have R1 : Row V0 (g + 1) 3 #[.int .i64 ord] := by rw [hV0, hW1]; exact (Row.new' 3 _ z0.symm).alloc _
  have R2 : Row V0 (g + 1 + 1) 61 #[.slice none 0 0] := by rw [hV0]; exact Row.new' 61 _ z1.symm
  have A0 : Acc V0 (g + 1 + 1) (.slice none 0 0) [] V0 := ⟨World.ownsRow_nil _ _ _ _, R2, grown_refl _ _⟩
  have HA0 := Lib.hid A0
  have HW0 := Lib.hid hW0
  have HW1 := Lib.hid hW1
  have HV0 := Lib.hid hV0
  have HB := Lib.hid hb
  have HR0 := Lib.hid R0
  have HR1 := Lib.hid R1
  have EG := Lib.hid eg
  have ZV := Lib.hid zV
  have EN := Lib.hid en
  have HM := Lib.hid hM
  clear A0 hW0 hW1 hV0 hb R0 R1 R2 eg zV en hM
  have ez : w.heap.size = g := EG.out.symm
  go_enter Tryd.func32, Tryd.ntmps32
  go_wp2_with (first | ((with_reducible (first | (refine wpList_atE HW0.out ?_) | (refine wpList_atE HW1.out ?_) | (refine wpList_atE HV0.out ?_)))))
  go_loopw [9, 10, 11, 14] (fun _ _ _ iv wr => ∃ (k : Nat) (v : Value), k ≤ n ∧ iv = .int .i64 k ∧ Acc V0 (g + 1 + 1) v (numsR L id k) wr) (fun _ _ _ iv _ => n - (intOf iv).toNat)
  case atStart => exact ⟨0, _, by omega, rfl, HA0.out⟩
  case round =>
    obtain ⟨k, v, hk, rfl, hA⟩ := hrel
    have HBr := Lib.hid (HB.out.trans ((hA.bel (B := g) (by omega) (by have := ZV.out; omega)).mono (by omega)))
    have cz : g + 1 + 1 < V0.heap.size := by have := ZV.out; omega
    have HA := Lib.hid hA
    by_cases hkn : k < n
    · have ki : (k : Int) < (n : Int) := by omega
      obtain ⟨ga, oa, ea, hga, hc⟩ : ∃ g o, a = some ⟨g, o, none⟩ ∧ g < w.heap.size ∧ ∀ i, i < L.length → ∃ v, w.cell? ⟨g, o + i, none⟩ = some v ∧ RowM w v (L.getD i []) := by
        rcases HM.out with ⟨_, h⟩ | h
        · have := EN.out; omega
        · exact h
      subst ea
      obtain ⟨rv, hrv, hrm⟩ := hc k (by rw [← EN.out]; exact hkn)
      have hrm' := hrm.below HBr.out (Nat.le_refl _)
      have hr : wr.rangeAt ga (oa + k) [rv] := fun j x hx => by
        match j, hx with
        | 0, hx => simp at hx; subst hx; exact (HBr.out.cell (p := ⟨ga, oa + k, none⟩) hga).trans hrv
        | (j + 1), hx => simp at hx
      have hrm2 := hrm'
      obtain ⟨av, cv, evv, hlv, hMv⟩ := hrm2
      obtain ⟨fs, hfs⟩ : ∃ fs, fs = L.getD k [] := ⟨_, rfl⟩
      rw [← hfs] at hrm' evv hlv
      obtain ⟨m, hm⟩ : ∃ m, m = fs.length := ⟨_, rfl⟩
      rw [← hm] at evv
      subst evv
      obtain ⟨gn, hgn⟩ : ∃ gn, gn = wr.heap.size := ⟨_, rfl⟩
      obtain ⟨W2, hW2⟩ : ∃ W, W = wr.alloc (.cells #[.slice av m cv] 76) := ⟨_, rfl⟩
      have A2 : Acc V0 (g + 1 + 1) v (numsR L id k) W2 := by rw [hW2]; exact hA.alloc _
      have b2 : Below wr.heap.size wr W2 := by rw [hW2]; exact (Below.refl _ _).alloc (Nat.le_refl _) _
      have r2 : Row W2 gn 76 #[.slice av m cv] := by rw [hW2]; exact Row.new' 76 _ hgn
      have NUM := number_any av m cv fs id W2 (hrm'.below b2 (Nat.le_refl _)) hm
      have g0 := (HR0.out.below (A2.bel (B := g + 1) (by omega) (by have := ZV.out; omega)) (by omega)).cell 0
      simp only [List.getElem?_toArray, List.getElem?_cons_zero] at g0
      have q0 := r2.cell 0
      simp only [List.getElem?_toArray, List.getElem?_cons_zero] at q0
      have NS : numsR L id (k + 1) = if (numR fs id).2 = true then numsR L id k ++ [(numR fs id).1] else numsR L id k := by rw [numsR, ← hfs]
      obtain ⟨⟨x, ok⟩, hxo⟩ : ∃ t, t = numR fs id := ⟨_, rfl⟩
      rw [← hxo] at NS NUM
      simp only at NS
      have LN := length_nums L id k
      have HNS := Lib.hid NS
      have HNUM := Lib.hid NUM
      have HA2 := Lib.hid A2
      have HW2 := Lib.hid hW2
      have HGN := Lib.hid hgn
      have HRR := Lib.hid hr
      have HKN := Lib.hid hkn
      have CZ := Lib.hid cz
      clear NS NUM A2 hW2 hgn hr hkn hA hrm hrm' hc hrv hMv hlv b2 r2 hxo hfs hm cz hk
      go_wp2_with (first | ((with_reducible show wpList _ _ _ (Oper.mk _ (Op.load _ _) _ _ _ _ :: _) _ _); refine wpList_load_mid rfl 76 (.tmp 16) rfl ga (oa + k) rfl [.slice av m cv] _ HRR.out Tryd.underlying76 rfl Tryd.n76 ?_) | ((with_reducible show wpList _ _ _ (Oper.mk _ (Op.alloc _) _ _ _ _ :: _) _ _); (refine wpList_new_row rfl rfl 76 9 (.tmp 17) rfl rfl rfl rfl gn HGN.out #[.slice av m cv] rfl rfl _ Tryd.z76 Tryd.n76 rfl (one_slice _ _ _) ?_; refine wpList_atE HW2.out ?_)))
      refine HNUM.out.mono ?_
      rintro e w2 ⟨rfl, b3⟩
      have A3 := HA2.out.call b3
      have v3 := A3.2.1.cell 0
      simp only [List.getElem?_toArray, List.getElem?_cons_zero] at v3
      have HA3 := Lib.hid A3
      clear A3 b3
      cases ok with
      | false =>
        go_wp2_with fail
        go_roundw
        case rel => exact ⟨k + 1, v, HKN.out, by go_num, by rw [HNS.out]; exact HA3.out⟩
        case measure => have := HKN.out; simp [intOf] <;> omega
      | true =>
        have BU : Hid (Buf V0.heap.size 2 v (numsR L id k).length (ivs (numsR L id k)) w2 w2) := Lib.hid ⟨HA3.out.1, Below.refl _ _, HA3.out.2.2.size⟩
        go_wp2_with (first | ((with_reducible show wpList _ _ _ (Oper.mk _ (Op.call _) _ _ _ _ :: _) _ _); (refine wpList_push rfl (.tmp 25) (.tmp 27) 61 rfl V0.heap.size 2 (.int .i64 0) 8 Tryd.underlying61 Tryd.info2 rfl v (numsR L id k).length (ivs (numsR L id k)) rfl w2 w2 _ (.int .i64 x) rfl rfl BU.out rfl (by unfold maxLen; omega) (by omega) (fun v' w' hv' _ => ?_); obtain ⟨ge, ce, ev, _⟩ := hv'.form (by omega); subst ev; have HV' := Lib.hid hv'; have z3 := (HA3.out.2.1.below hv'.2.1 CZ.out).cell 0; have z4 := (HA3.out.2.1.below hv'.2.1 CZ.out).frozen 0; clear hv')))
        go_roundw
        case rel => exact ⟨k + 1, _, HKN.out, by go_num, by rw [HNS.out]; exact HA3.out.push CZ.out HV'.out⟩
        case measure => have := HKN.out; simp [intOf] <;> omega
    · obtain rfl : k = n := by omega
      have ki : ¬ (k : Int) < (k : Int) := by omega
      go_wp2_with fail
      go_ret
      obtain ⟨av, cv, ev, hI⟩ := ints_of_own HA.out.1 rfl
      have hv := HA.out.2.1.cell 0
      rw [ev] at hv
      exact ⟨_, rfl, ⟨g, g + 1 + 1, g + 1, av, _, cv, rfl, (HR0.out.below (HA.out.bel (B := g + 1) (by omega) (by have := ZV.out; omega)) (by omega)).cell 0, hv, (HR1.out.below (HA.out.bel (B := g + 1 + 1) (by omega) (by have := ZV.out; omega)) (by omega)).cell 0, rfl, hI⟩, by have h := HBr.out; rw [ez] at h; exact h⟩
end Go.Proofs.YtnpkbjekodjcjaaDoor
