/- Contracts: Name, name, taken. -/
import Derived.Test.YtkonoojmhjinpaaB
set_option linter.all false
namespace Go.Proofs.Ytkonoojmhjinpaa
open Go.RowKit Go.Fen
set_option linter.unusedVariables false
set_option maxHeartbeats 4000000

theorem undef_no {b : Bool} (h : some undef = some (Value.bool b)) : False := by cases h

theorem name_ok (s : ByteArray) (w : World) (hs : s.size ≤ 9223372036854775807) : Calls Try.prog 66 #[.string s] w fun e w' => RetB e ∧ w' = w := by
  go_enter Try.func66, Try.ntmps66
  go_wp2_with fail
  go_loopw [3, 4] (fun iv _ wr => ∃ k : Nat, k ≤ s.size ∧ iv = .int .i64 k ∧ wr = w) (fun iv _ _ => s.size - (intOf iv).toNat)
  case atStart => exact ⟨0, by omega, rfl, rfl⟩
  case round =>
    obtain ⟨k, hk, rfl, rfl⟩ := hrel
    by_cases hkn : k < s.size
    · have ki : (k : Int) < (s.size : Int) := by omega
      have HKN := Lib.hid hkn
      go_upto_region 5 with fail
      generalize s[k].toNat = ch
      go_cut [32] from 14 to 32 (fun s32 wx => ∃ b : Bool, s32 = .bool b ∧ wr = wx)
      case first =>
        go_wp2_with fail
        all_goals first | exact (undef_no (by assumption)).elim | (go_meet; exact ⟨_, rfl, rfl⟩)
      case rest =>
        obtain ⟨b, rfl, rfl⟩ := hcut
        cases b with
        | true =>
          go_wp2_with fail
          first | go_ret | (try simp only [Exit.inBlock, Exit.then]); go_ret
          exact ⟨retB _, rfl⟩
        | false =>
          go_wp2_with fail
          go_roundw
          case rel => exact ⟨k + 1, HKN.out, by go_num, by first | rfl | trivial⟩
          case measure => have := HKN.out; simp [intOf] <;> omega
    · have ki : ¬ (k : Int) < (s.size : Int) := by omega
      by_cases h1 : 1 ≤ s.size
      · have d1 : decide (1 ≤ s.size) = true := decide_eq_true h1
        clear hk hkn
        go_wp2_with fail
        first | go_ret | ((try simp only [Exit.inBlock, Exit.then]); go_ret)
        exact ⟨retB _, by first | rfl | trivial⟩
      · have d1 : decide (1 ≤ s.size) = false := decide_eq_false h1
        clear hk hkn
        go_wp2_with fail
        first | go_ret | ((try simp only [Exit.inBlock, Exit.then]); go_ret)
        exact ⟨retB _, by first | rfl | trivial⟩

theorem name_any (s : ByteArray) (w : World) (hs : s.size ≤ 9223372036854775807) : Calls Try.prog 45 #[.string s] w fun e w' => RetN e ∧ Below w.heap.size w w' := by
  have HC := Lib.hid (name_ok s w hs)
  have HB := Lib.hid (Below.refl w.heap.size w)
  have HBa := Lib.hid (fun o => (Below.refl w.heap.size w).alloc (Nat.le_refl _) o)
  by_cases h4 : s.size ≤ 4
  · have d4 : decide (s.size ≤ 4) = true := decide_eq_true h4
    go_enter Try.func45, Try.ntmps45
    go_wp2_with fail
    refine HC.out.mono ?_
    rintro e w1 ⟨⟨b, rfl⟩, hw⟩
    rw [hw]
    clear hw
    cases b with
    | true =>
      go_wp2_with fail
      first | go_ret | ((try simp only [Exit.inBlock, Exit.then]); go_ret)
      exact ⟨⟨s, by omega, rfl⟩, HB.out⟩
    | false =>
      have h6 : s.size % 6 = 0 ∨ s.size % 6 = 1 ∨ s.size % 6 = 2 ∨ s.size % 6 = 3 ∨ s.size % 6 = 4 := by omega
      rcases h6 with h | h | h | h | h
      all_goals
        have hi : (s.size : Int) % 6 = ((s.size % 6 : Nat) : Int) := by omega
        rw [h] at hi
        clear h
        go_wp2_with fail
        first | go_ret | ((try simp only [Exit.inBlock, Exit.then]); go_ret)
        exact ⟨⟨_, by decide, rfl⟩, HBa.out _⟩
  · have d4 : decide (s.size ≤ 4) = false := decide_eq_false h4
    go_enter Try.func45, Try.ntmps45
    go_wp2_with fail
    refine HC.out.mono ?_
    rintro e w1 ⟨⟨b, rfl⟩, hw⟩
    rw [hw]
    clear hw
    have h6 : s.size % 6 = 0 ∨ s.size % 6 = 1 ∨ s.size % 6 = 2 ∨ s.size % 6 = 3 ∨ s.size % 6 = 4 ∨ s.size % 6 = 5 := by omega
    cases b
    all_goals
      rcases h6 with h | h | h | h | h | h
      all_goals
        have hi : (s.size : Int) % 6 = ((s.size % 6 : Nat) : Int) := by omega
        rw [h] at hi
        clear h
        go_wp2_with fail
        first | go_ret | ((try simp only [Exit.inBlock, Exit.then]); go_ret)
        exact ⟨⟨_, by decide, rfl⟩, HBa.out _⟩

theorem one_two (a b : Int) : (#[Value.int .i64 a, .int .i64 b]).all (·.oneCell') = true := by simp [Value.oneCell']
theorem taken_any (m : Nat) (v : Value) (f : Fl) (x y : Int) (w : World) (hm : m ≤ 1000) (hS : Sch m w v) : Calls Try.prog 60 #[v, .agg (flc f).toArray, .agg #[.int .i64 x, .int .i64 y]] w fun e w' => RetB e ∧ Below w.heap.size w w' := by
  obtain ⟨a, F, c, nx, rfl, hF, hL⟩ := hS
  obtain ⟨n, hn⟩ : ∃ n, n = F.length := ⟨_, rfl⟩
  rw [← hn]
  have n6 : n ≤ 1000 := by omega
  obtain ⟨g, eg⟩ : ∃ g, g = w.heap.size := ⟨_, rfl⟩
  obtain ⟨W0, hW0⟩ : ∃ W, W = w.alloc (.cells #[.slice a n c, .int .i64 nx] 31) := ⟨_, rfl⟩
  obtain ⟨W1, hW1⟩ : ∃ W, W = W0.alloc (.cells (flc f).toArray 126) := ⟨_, rfl⟩
  obtain ⟨W2, hW2⟩ : ∃ W, W = W1.alloc (.cells #[.int .i64 x, .int .i64 y] 128) := ⟨_, rfl⟩
  have z0 : W0.heap.size = g + 1 := by rw [hW0, eg]; simp
  have z1 : W1.heap.size = g + 1 + 1 := by rw [hW1, World.size_alloc, z0]
  have hb : Below w.heap.size w W2 := by rw [hW2, hW1, hW0]; exact (((Below.refl _ _).alloc (Nat.le_refl _) _).alloc (by simp) _).alloc (by simp <;> omega) _
  have R0 : Row W2 g 31 #[.slice a n c, .int .i64 nx] := by rw [hW2, hW1, hW0, eg]; exact ((Row.new w 31 _).alloc _).alloc _
  have R1 : Row W2 (g + 1) 126 (flc f).toArray := by rw [hW2, hW1]; exact (Row.new' 126 _ z0.symm).alloc _
  have R2 : Row W2 (g + 1 + 1) 128 #[.int .i64 x, .int .i64 y] := by rw [hW2]; exact Row.new' 128 _ z1.symm
  have HW0 := Lib.hid hW0
  have HW1 := Lib.hid hW1
  have HW2 := Lib.hid hW2
  have EG := Lib.hid eg
  have Z0 := Lib.hid z0
  have Z1 := Lib.hid z1
  have HB := Lib.hid hb
  have HL := Lib.hid (hL.bel hb)
  have HN := Lib.hid hn
  have HR0 := Lib.hid R0
  have HR1 := Lib.hid R1
  have HR2 := Lib.hid R2
  have HC := Lib.hid (fun W => name_ok f.nm W (by have := f.sz; omega))
  clear hW0 hW1 hW2 eg z0 z1 hb R0 R1 R2 hL hn hF
  go_enter Try.func60, Try.ntmps60
  go_wp2_with (first | ((with_reducible show wpList _ _ _ (Oper.mk _ (Op.box _ _) _ _ _ _ :: _) _ _); (first | (refine wpList_box_row rfl 31 (.tmp 0) rfl _ rfl g EG.out ?_; refine wpList_atE HW0.out ?_) | (refine wpList_box_row rfl 126 (.tmp 1) rfl _ rfl (g + 1) Z0.out.symm ?_; refine wpList_atE HW1.out ?_) | (refine wpList_box_row rfl 128 (.tmp 2) rfl _ rfl (g + 1 + 1) Z1.out.symm ?_; refine wpList_atE HW2.out ?_))))
  go_loopw [7, 8] (fun iv _ wr => ∃ k : Nat, k ≤ n ∧ iv = .int .i64 k ∧ Below W2.heap.size W2 wr) (fun iv _ _ => n - (intOf iv).toNat)
  case atStart => exact ⟨0, by omega, rfl, Below.refl _ _⟩
  case round =>
    obtain ⟨k, hk, rfl, hb⟩ := hrel
    have HBr := Lib.hid hb
    have k0 := (HR0.out.below hb HR0.out.lt).cell 0
    have f1 : wr.cell? ⟨g + 1, 1, none⟩ = some (.string f.nm) := (HR1.out.below hb HR1.out.lt).cell 1
    have f3 : wr.cell? ⟨g + 1, 3, none⟩ = some (.int .i64 f.pa) := (HR1.out.below hb HR1.out.lt).cell 3
    simp only [List.getElem?_toArray, List.getElem?_cons_zero] at k0
    by_cases hkn : k < n
    · have ki : (k : Int) < (n : Int) := by omega
      obtain ⟨gf, of, rfl, _, hc⟩ := (HL.out.bel hb).some (by rw [← HN.out]; omega)
      have hlt : k < F.length := by rw [← HN.out]; exact hkn
      obtain ⟨e, hf⟩ : ∃ f, F[k]? = some f := ⟨_, List.getElem?_eq_getElem hlt⟩
      have hr := hc k e hf
      obtain ⟨g8, hg8⟩ : ∃ x, x = wr.heap.size := ⟨_, rfl⟩
      obtain ⟨W3, hW3⟩ : ∃ W, W = wr.alloc (.cells (flc e).toArray 126) := ⟨_, rfl⟩
      have b3 : Below wr.heap.size wr W3 := by rw [hW3]; exact (Below.refl _ _).alloc (Nat.le_refl _) _
      have R3 : Row W3 g8 126 (flc e).toArray := by rw [hW3]; exact Row.new' 126 _ hg8
      have hb3 := bel_tr hb b3
      have HB3 := Lib.hid hb3
      have e0 : W3.cell? ⟨g8, 0, none⟩ = some (.int .i64 e.id) := R3.cell 0
      have e1 : W3.cell? ⟨g8, 1, none⟩ = some (.string e.nm) := R3.cell 1
      have e3 : W3.cell? ⟨g8, 3, none⟩ = some (.int .i64 e.pa) := R3.cell 3
      have m1 : W3.cell? ⟨g + 1, 1, none⟩ = some (.string f.nm) := (HR1.out.below hb3 HR1.out.lt).cell 1
      have m3 : W3.cell? ⟨g + 1, 3, none⟩ = some (.int .i64 f.pa) := (HR1.out.below hb3 HR1.out.lt).cell 3
      have l0 : W3.cell? ⟨g + 1 + 1, 0, none⟩ = some (.int .i64 x) := (HR2.out.below hb3 HR2.out.lt).cell 0
      have l1 : W3.cell? ⟨g + 1 + 1, 1, none⟩ = some (.int .i64 y) := (HR2.out.below hb3 HR2.out.lt).cell 1
      have HG8 := Lib.hid hg8
      have HW3 := Lib.hid hW3
      have HR := Lib.hid hr
      have HKN := Lib.hid hkn
      clear hc hlt hf hr hkn hk hb hb3 b3 hg8 hW3 R3 f1 f3
      go_upto_region 5 with (first | ((with_reducible show wpList _ _ _ (Oper.mk _ (Op.load _ _) _ _ _ _ :: _) _ _); refine wpList_load_mid rfl 126 (.tmp 20) rfl gf (of + k * 4) rfl (flc e) _ HR.out Try.underlying126 rfl Try.n126 ?_) | ((with_reducible show wpList _ _ _ (Oper.mk _ (Op.alloc _) _ _ _ _ :: _) _ _); (refine wpList_new_row rfl rfl 126 8 (.tmp 21) rfl rfl rfl rfl g8 HG8.out (flc e).toArray rfl rfl _ Try.z126 Try.n126 rfl (one_fl e) ?_; refine wpList_atE HW3.out ?_)))
      simp only [Act.put, List.setIfInBounds_toArray, List.set_cons_zero, List.set_cons_succ]
      go_cut [47] from 22 to 47 (fun s47 wx => ∃ b : Bool, s47 = .bool b ∧ W3 = wx)
      case first =>
        go_wp2_with fail
        all_goals first | exact (undef_no (by assumption)).elim | (go_meet; exact ⟨_, rfl, rfl⟩)
      case rest =>
        obtain ⟨b, rfl, rfl⟩ := hcut
        cases b with
        | true =>
          go_wp2_with fail
          first | go_ret | ((try simp only [Exit.inBlock, Exit.then]); go_ret)
          exact ⟨retB _, bel_tr HB.out HB3.out⟩
        | false =>
          go_wp2_with fail
          go_roundw
          case rel => exact ⟨k + 1, HKN.out, by go_num, HB3.out⟩
          case measure => have := HKN.out; simp [intOf] <;> omega
    · have ki : ¬ (k : Int) < (n : Int) := by omega
      clear hkn hk hb f3
      go_wp2_with fail
      refine (HC.out _).mono ?_
      rintro e w1 ⟨⟨b, rfl⟩, hw⟩
      rw [hw]
      clear hw
      go_wp2_with fail
      first | go_ret | ((try simp only [Exit.inBlock, Exit.then]); go_ret)
      exact ⟨retB _, bel_tr HB.out HBr.out⟩
end Go.Proofs.Ytkonoojmhjinpaa
