/- Contracts of the small functions of the reference of package schema. -/
import Derived.Test.YtkonoojmhjinpaaK0
set_option linter.all false
namespace Go.Proofs.Ytkonoojmhjinpaa
open Go.RowKit Go.Fen
set_option linter.unusedVariables false
set_option maxHeartbeats 4000000

theorem mod_any (x n : Int) (w : World) : Calls Try.prog 44 #[.int .i64 x, .int .i64 n] w fun e w' => RetI e ∧ w' = w := by
  by_cases h : n ≤ 0
  · go_enter Try.func44, Try.ntmps44
    go_wp2
    go_ret
    exact ⟨retI _, rfl⟩
  · have d : decide (n ≤ 0) = false := decide_eq_false h
    have n0 : ¬ n = 0 := by omega
    go_enter Try.func44, Try.ntmps44
    go_wp2
    go_ret
    exact ⟨retI _, rfl⟩

theorem sep_any (s : ByteArray) (w : World) : Calls Try.prog 46 #[.string s] w fun e w' => RetB e ∧ w' = w := by
  by_cases h : 1 ≤ s.size
  · have d : decide (1 ≤ s.size) = true := decide_eq_true h
    go_enter Try.func46, Try.ntmps46
    go_wp2
    go_ret
    exact ⟨retB _, rfl⟩
  · have d : decide (1 ≤ s.size) = false := decide_eq_false h
    go_enter Try.func46, Try.ntmps46
    go_wp2
    go_ret
    exact ⟨retB _, rfl⟩

theorem type_any (t : Int) (w : World) : Calls Try.prog 81 #[.int .i64 t] w fun e w' => RetB e ∧ w' = w := by
  by_cases h : 1 ≤ t
  · have d : decide (1 ≤ t) = true := decide_eq_true h
    go_enter Try.func81, Try.ntmps81
    go_wp2
    go_ret
    exact ⟨retB _, rfl⟩
  · have d : decide (1 ≤ t) = false := decide_eq_false h
    go_enter Try.func81, Try.ntmps81
    go_wp2
    go_ret
    exact ⟨retB _, rfl⟩

theorem Try.z31 : (Try.prog.info? 31).bind (·.zero) = some (.agg #[.slice none 0 0, .int .i64 0]) := by kernel_rfl
theorem Try.n31 : (Try.prog.info? 31).map (·.size) = some 2 := by kernel_rfl
theorem Try.z126 : (Try.prog.info? 126).bind (·.zero) = some (.agg #[.int .i64 0, .string ⟨#[]⟩, .int .i64 0, .int .i64 0]) := by kernel_rfl
theorem Try.n126 : (Try.prog.info? 126).map (·.size) = some 4 := by kernel_rfl
theorem Try.info126 : (Try.prog.info? 126).map (fun i => (i.zero, i.size, i.bytes)) = some (some (.agg #[.int .i64 0, .string ⟨#[]⟩, .int .i64 0, .int .i64 0]), 4, 40) := by kernel_rfl
theorem one_sch (a : Option Addr) (n c : Nat) (x : Int) : (#[Value.slice a n c, .int .i64 x]).all (·.oneCell') = true := by simp [Value.oneCell']
theorem one_fl (f : Fl) : (flc f).toArray.all (·.oneCell') = true := by simp [flc, Value.oneCell']
/-- a schema is returned -/
def RetSch (m : Nat) (e : Ending) (w : World) : Prop := ∃ v, e = .returned v ∧ Sch m w v

theorem new_any (w : World) : Calls Try.prog 16 #[] w fun e w' => RetSch 0 e w' ∧ Below w.heap.size w w' := by
  obtain ⟨g, eg⟩ : ∃ g, g = w.heap.size := ⟨_, rfl⟩
  obtain ⟨W0, hW0⟩ : ∃ W, W = w.alloc (.cells #[.slice none 0 0, .int .i64 0] 31) := ⟨_, rfl⟩
  have hb : Below w.heap.size w W0 := by rw [hW0]; exact (Below.refl _ _).alloc (Nat.le_refl _) _
  have R0 : Row W0 g 31 #[.slice none 0 0, .int .i64 0] := by rw [hW0]; exact Row.new' 31 _ eg
  have HW0 := Lib.hid hW0
  have EG := Lib.hid eg
  have HBP := Lib.hid (fun cs => below_putRow hb (show w.heap.size ≤ g by omega) cs)
  have HR0 := Lib.hid R0
  clear hW0 eg hb R0
  go_enter Try.func16, Try.ntmps16
  go_wp2_with (first | ((with_reducible show wpList _ _ _ (Oper.mk _ (Op.alloc _) _ _ _ _ :: _) _ _); (refine wpList_alloc_row rfl 31 rfl #[.slice none 0 0, .int .i64 0] Try.z31 g EG.out ?_; refine wpList_atE HW0.out ?_)) | ((with_reducible show wpList _ _ _ (Oper.mk _ (Op.store _ _ _) _ _ _ _ :: _) _ _); refine wpList_put_arr rfl 31 (.tmp 0) (.tmp 1) rfl rfl g 31 _ #[.slice none 0 0, .int .i64 1] rfl rfl HR0.out Try.n31 rfl (one_sch _ _ _ _) ?_))
  refine bodyPost_ret (results_cell_row (p := 0) (ty := 31) rfl _ _ g 31 #[.slice none 0 0, .int .i64 1] (0, 0) _ rfl (Row.setRow HR0.out _) Try.underlying31 rfl Try.n31) rfl ?_
  exact ⟨⟨_, rfl, none, [], 0, 1, rfl, Nat.le_refl _, .inl rfl⟩, HBP.out _⟩
end Go.Proofs.Ytkonoojmhjinpaa
