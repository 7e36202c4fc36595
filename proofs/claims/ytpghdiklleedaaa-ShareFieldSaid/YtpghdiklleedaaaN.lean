/- The walk of ShareFieldMatchesReference. -/
import Derived.Test.YtpghdiklleedaaaM
set_option linter.all false
namespace Go.Proofs.Ytpghdiklleedaaa
open Go.RowKit Go.Fen Gf
set_option linter.unusedVariables false
set_option maxHeartbeats 400000

theorem field_ref_walk (a b : BitVec 8) (w : World) : Calls Try.prog 3 #[.int .u8 a.toNat, .int .u8 b.toNat] w fun e w' => e = .returned (.bool true) ∧ Below w.heap.size w w' := by
  have hs := Lib.hid (sanity_any w)
  have hm := Lib.hid (fun W => mul_any a b W)
  have hr := Lib.hid (fun W => rmul_any a b W)
  have hi := Lib.hid (fun W => inv_any a W)
  have hj := Lib.hid (fun W => rinv_any a W)
  generalize mul a b = m at *
  generalize inv a = v at *
  go_enter Try.func3, Try.ntmps3
  go_wp2_with fail
  refine hs.out.mono ?_
  rintro e w1 ⟨rfl, b1⟩
  go_wp2_with fail
  refine (hm.out w1).mono ?_
  rintro e w1' ⟨rfl, rfl⟩
  go_wp2_with fail
  refine (hr.out w1).mono ?_
  rintro e w1' ⟨rfl, rfl⟩
  go_wp2_with fail
  refine (hi.out w1).mono ?_
  rintro e w2 ⟨rfl, b2⟩
  have b3 := Lib.hid (b1.trans (b2.mono b1.size))
  clear b1 b2
  go_wp2_with fail
  refine (hj.out w2).mono ?_
  rintro e w2' ⟨rfl, rfl⟩
  go_wp2_with fail
  go_ret
  exact ⟨rfl, b3.out⟩
end Go.Proofs.Ytpghdiklleedaaa
