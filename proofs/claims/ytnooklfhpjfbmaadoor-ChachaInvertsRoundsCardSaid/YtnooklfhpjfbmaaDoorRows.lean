/-
  NARROWER THAN 'FOR EVERY INPUT', by the rows' own cells (each row's printed sentence says how): ChachaIsInvolution: laid · ChachaPrefixes: laid · ChachaBlocks: laid · ChachaIsLinear: laid · ChachaInvertsRounds: laid.
  DERIVED. THE GIVEN ROWS OF THIS SEAT. 5 by the template 'for every input the law returns true; each argument reads behind the call as it read before'; 0 by the template 'total and deterministic' (their statements: YtnooklfhpjfbmaaDoorTotals.lean).
  GIVEN WITH THE SEED: the statements are not yours to turn. If you find one false, say at which input.
  Laid BY PROGRAM, IN A SANDBOX (cutbox-rows.mjs): the forced cells as the released guide's own fill.sh prints them over the translation f3c3b214c9c3ad6d… (all of the seat's roots in one cut). By AI agents, Wed Nov 11 2026. No macro, syntax, notation, axiom, sorry.
-/
import Derived.Test.YtnooklfhpjfbmaaDoorChecked
import GoSem.Claim
import GoSem.ClaimJoined
import GoSem.ClaimMapViews
import Derived.JoinedTies
import Derived.KernelRfl
namespace Go.Proofs.YtnooklfhpjfbmaaDoor
/- THE CELL 'sum', in the pinned program and in every row, IS THE sha256 OF THE DUMP (.gsa) THAT YtnooklfhpjfbmaaDoorProg.lean LOADS. Nothing in Lean hashes anything: it is a label: what it is worth is what the hold of that sum in a sandbox is worth. -/
noncomputable def Tryd.pinned : Pinned := { name := "ytnooklfhpjfbmaadoor", sum := "f3c3b214c9c3ad6d69d60843ed6187ae639fbbb6e1f7ae87b1ba2834fa4bd7d6", checked := Tryd.checked }
namespace Rows
def none {H : Type} : Left H := { results := [], args := [] }

/- WHAT THE LISTED PACKAGE-LEVEL VARIABLES READ AS WHEN THE CALL BEGINS. Each datum BY PROGRAM (the guide's laid-datum.mjs) off the statement by which the dump's own 'gosem.cut.vars' lays the variable. In a bare row this is a premise. The card (YtnooklfhpjfbmaaDoorCards.lean) ties it to the program's text. -/
def laid_fenland_chacha_rounds {H : Type} : DataW H := .agg [.agg [.lit (.int .i64 0), .lit (.int .i64 4), .lit (.int .i64 8), .lit (.int .i64 12)], .agg [.lit (.int .i64 1), .lit (.int .i64 5), .lit (.int .i64 9), .lit (.int .i64 13)], .agg [.lit (.int .i64 2), .lit (.int .i64 6), .lit (.int .i64 10), .lit (.int .i64 14)], .agg [.lit (.int .i64 3), .lit (.int .i64 7), .lit (.int .i64 11), .lit (.int .i64 15)], .agg [.lit (.int .i64 0), .lit (.int .i64 5), .lit (.int .i64 10), .lit (.int .i64 15)], .agg [.lit (.int .i64 1), .lit (.int .i64 6), .lit (.int .i64 11), .lit (.int .i64 12)], .agg [.lit (.int .i64 2), .lit (.int .i64 7), .lit (.int .i64 8), .lit (.int .i64 13)], .agg [.lit (.int .i64 3), .lit (.int .i64 4), .lit (.int .i64 9), .lit (.int .i64 14)]]

/-- 'fenlandlaw03.ChachaIsInvolution': WHATEVER THE INPUT: true; the input reads as it did. -/
def chachaIsInvolutionSpec : ChangeSpec := { name := "chachaIsInvolution", fn := fun _ => fun
  | [d1, d2] => { results := [.lit (.bool true)], args := [d1, d2] }
  | _ => none }
def chachaIsInvolutionRow : OpenClaim := { program := "ytnooklfhpjfbmaadoor", sum := "f3c3b214c9c3ad6d69d60843ed6187ae639fbbb6e1f7ae87b1ba2834fa4bd7d6", func := "fenland/fenlandlaw03.ChachaIsInvolution", spec := "chachaIsInvolution", named := ["fenland/chacha.rounds"], apart := false, laid := [("fenland/chacha.rounds", laid_fenland_chacha_rounds)] }
def ChachaIsInvolutionSaid : Prop := chachaIsInvolutionRow.holds Tryd.pinned (OpenSpec.ofChange chachaIsInvolutionSpec)

/-- ITS FALSE NEIGHBOUR: 'it returns false'. Refute it at one input. -/
def chachaIsInvolutionWrong : ChangeSpec := { name := "chachaIsInvolution", fn := fun _ => fun
  | [d1, d2] => { results := [.lit (.bool false)], args := [d1, d2] }
  | _ => none }
def ChachaIsInvolutionWrongFalsely : Prop := chachaIsInvolutionRow.holds Tryd.pinned (OpenSpec.ofChange chachaIsInvolutionWrong)

/-- 'fenlandlaw03.ChachaPrefixes': WHATEVER THE INPUT: true; the input reads as it did. -/
def chachaPrefixesSpec : ChangeSpec := { name := "chachaPrefixes", fn := fun _ => fun
  | [d1, d2, d3] => { results := [.lit (.bool true)], args := [d1, d2, d3] }
  | _ => none }
def chachaPrefixesRow : OpenClaim := { program := "ytnooklfhpjfbmaadoor", sum := "f3c3b214c9c3ad6d69d60843ed6187ae639fbbb6e1f7ae87b1ba2834fa4bd7d6", func := "fenland/fenlandlaw03.ChachaPrefixes", spec := "chachaPrefixes", named := ["fenland/chacha.rounds"], apart := false, laid := [("fenland/chacha.rounds", laid_fenland_chacha_rounds)] }
def ChachaPrefixesSaid : Prop := chachaPrefixesRow.holds Tryd.pinned (OpenSpec.ofChange chachaPrefixesSpec)

/-- ITS FALSE NEIGHBOUR: 'it returns false'. Refute it at one input. -/
def chachaPrefixesWrong : ChangeSpec := { name := "chachaPrefixes", fn := fun _ => fun
  | [d1, d2, d3] => { results := [.lit (.bool false)], args := [d1, d2, d3] }
  | _ => none }
def ChachaPrefixesWrongFalsely : Prop := chachaPrefixesRow.holds Tryd.pinned (OpenSpec.ofChange chachaPrefixesWrong)

/-- 'fenlandlaw03.ChachaBlocks': WHATEVER THE INPUT: true; the input reads as it did. -/
def chachaBlocksSpec : ChangeSpec := { name := "chachaBlocks", fn := fun _ => fun
  | [d1, d2] => { results := [.lit (.bool true)], args := [d1, d2] }
  | _ => none }
def chachaBlocksRow : OpenClaim := { program := "ytnooklfhpjfbmaadoor", sum := "f3c3b214c9c3ad6d69d60843ed6187ae639fbbb6e1f7ae87b1ba2834fa4bd7d6", func := "fenland/fenlandlaw03.ChachaBlocks", spec := "chachaBlocks", named := ["fenland/chacha.rounds"], apart := false, laid := [("fenland/chacha.rounds", laid_fenland_chacha_rounds)] }
def ChachaBlocksSaid : Prop := chachaBlocksRow.holds Tryd.pinned (OpenSpec.ofChange chachaBlocksSpec)

/-- ITS FALSE NEIGHBOUR: 'it returns false'. Refute it at one input. -/
def chachaBlocksWrong : ChangeSpec := { name := "chachaBlocks", fn := fun _ => fun
  | [d1, d2] => { results := [.lit (.bool false)], args := [d1, d2] }
  | _ => none }
def ChachaBlocksWrongFalsely : Prop := chachaBlocksRow.holds Tryd.pinned (OpenSpec.ofChange chachaBlocksWrong)

/-- 'fenlandlaw03.ChachaIsLinear': WHATEVER THE INPUT: true; the input reads as it did. -/
def chachaIsLinearSpec : ChangeSpec := { name := "chachaIsLinear", fn := fun _ => fun
  | [d1, d2, d3] => { results := [.lit (.bool true)], args := [d1, d2, d3] }
  | _ => none }
def chachaIsLinearRow : OpenClaim := { program := "ytnooklfhpjfbmaadoor", sum := "f3c3b214c9c3ad6d69d60843ed6187ae639fbbb6e1f7ae87b1ba2834fa4bd7d6", func := "fenland/fenlandlaw03.ChachaIsLinear", spec := "chachaIsLinear", named := ["fenland/chacha.rounds"], apart := false, laid := [("fenland/chacha.rounds", laid_fenland_chacha_rounds)] }
def ChachaIsLinearSaid : Prop := chachaIsLinearRow.holds Tryd.pinned (OpenSpec.ofChange chachaIsLinearSpec)

/-- ITS FALSE NEIGHBOUR: 'it returns false'. Refute it at one input. -/
def chachaIsLinearWrong : ChangeSpec := { name := "chachaIsLinear", fn := fun _ => fun
  | [d1, d2, d3] => { results := [.lit (.bool false)], args := [d1, d2, d3] }
  | _ => none }
def ChachaIsLinearWrongFalsely : Prop := chachaIsLinearRow.holds Tryd.pinned (OpenSpec.ofChange chachaIsLinearWrong)

/-- 'fenlandlaw03.ChachaInvertsRounds': WHATEVER THE INPUT: true; the input reads as it did. -/
def chachaInvertsRoundsSpec : ChangeSpec := { name := "chachaInvertsRounds", fn := fun _ => fun
  | [d1, d2] => { results := [.lit (.bool true)], args := [d1, d2] }
  | _ => none }
def chachaInvertsRoundsRow : OpenClaim := { program := "ytnooklfhpjfbmaadoor", sum := "f3c3b214c9c3ad6d69d60843ed6187ae639fbbb6e1f7ae87b1ba2834fa4bd7d6", func := "fenland/fenlandlaw03.ChachaInvertsRounds", spec := "chachaInvertsRounds", named := ["fenland/chacha.rounds"], apart := false, laid := [("fenland/chacha.rounds", laid_fenland_chacha_rounds)] }
def ChachaInvertsRoundsSaid : Prop := chachaInvertsRoundsRow.holds Tryd.pinned (OpenSpec.ofChange chachaInvertsRoundsSpec)

/-- ITS FALSE NEIGHBOUR: 'it returns false'. Refute it at one input. -/
def chachaInvertsRoundsWrong : ChangeSpec := { name := "chachaInvertsRounds", fn := fun _ => fun
  | [d1, d2] => { results := [.lit (.bool false)], args := [d1, d2] }
  | _ => none }
def ChachaInvertsRoundsWrongFalsely : Prop := chachaInvertsRoundsRow.holds Tryd.pinned (OpenSpec.ofChange chachaInvertsRoundsWrong)

/- THE SECOND FORM. 'bulk': how many values and letters a reading holds, each counted each time it is reached (what is shared counts as often as it is met; a slice's spare places count too). A statement '..UptoSaid' is the law's where the arguments, and the package variables that the reading takes, are together of bulk at most 1048576: NARROWER than '..Said'. Prove '..Said' where nothing that the law and all that it calls make is longer than what came in: it says more and counts as full. Else prove '..UptoSaid'. A law counts once. -/
mutual
def uptoBulk {H : Type} : DataW H → Nat
  | .lit (.string bytes) => bytes.length + 1
  | .lit _ => 1
  | .nil => 1
  | .ptr d => uptoBulk d + 1
  | .slice elems spare => uptoBulkAll elems + uptoBulkAll spare + 1
  | .agg parts => uptoBulkAll parts + 1
  | .iface _ d => uptoBulk d + 1
  | .map entries => uptoBulkEntries entries + 1
  | .held _ => 1
def uptoBulkAll {H : Type} : List (DataW H) → Nat
  | [] => 0
  | d :: r => uptoBulk d + uptoBulkAll r
def uptoBulkEntries {H : Type} : List (Lit × DataW H) → Nat
  | [] => 0
  | x :: r => uptoBulkEntry x + uptoBulkEntries r
def uptoBulkEntry {H : Type} : Lit × DataW H → Nat
  | (.string bytes, d) => bytes.length + uptoBulk d + 1
  | (_, d) => uptoBulk d + 1
 end
def uptoSmall : (H : Type) → List (DataW H) → Bool := fun _ ds => decide (uptoBulkAll ds ≤ 1048576)
def OpenSpec.upto (s : _root_.Go.ChangeSpec) : _root_.Go.OpenSpec := { _root_.Go.OpenSpec.ofChange s with cond := some uptoSmall }

/-- 'fenlandlaw03.ChachaIsInvolution', WHERE WHAT IT READS IS OF BULK AT MOST 1048576: true; the input reads as it did. -/
def chachaIsInvolutionUptoRow : OpenClaim := { program := "ytnooklfhpjfbmaadoor", sum := "f3c3b214c9c3ad6d69d60843ed6187ae639fbbb6e1f7ae87b1ba2834fa4bd7d6", func := "fenland/fenlandlaw03.ChachaIsInvolution", spec := "chachaIsInvolution", named := ["fenland/chacha.rounds"], apart := false, laid := [("fenland/chacha.rounds", laid_fenland_chacha_rounds)], narrowed := true }
def ChachaIsInvolutionUptoSaid : Prop := chachaIsInvolutionUptoRow.holds Tryd.pinned (OpenSpec.upto chachaIsInvolutionSpec)

/-- 'fenlandlaw03.ChachaPrefixes', WHERE WHAT IT READS IS OF BULK AT MOST 1048576: true; the input reads as it did. -/
def chachaPrefixesUptoRow : OpenClaim := { program := "ytnooklfhpjfbmaadoor", sum := "f3c3b214c9c3ad6d69d60843ed6187ae639fbbb6e1f7ae87b1ba2834fa4bd7d6", func := "fenland/fenlandlaw03.ChachaPrefixes", spec := "chachaPrefixes", named := ["fenland/chacha.rounds"], apart := false, laid := [("fenland/chacha.rounds", laid_fenland_chacha_rounds)], narrowed := true }
def ChachaPrefixesUptoSaid : Prop := chachaPrefixesUptoRow.holds Tryd.pinned (OpenSpec.upto chachaPrefixesSpec)

/-- 'fenlandlaw03.ChachaBlocks', WHERE WHAT IT READS IS OF BULK AT MOST 1048576: true; the input reads as it did. -/
def chachaBlocksUptoRow : OpenClaim := { program := "ytnooklfhpjfbmaadoor", sum := "f3c3b214c9c3ad6d69d60843ed6187ae639fbbb6e1f7ae87b1ba2834fa4bd7d6", func := "fenland/fenlandlaw03.ChachaBlocks", spec := "chachaBlocks", named := ["fenland/chacha.rounds"], apart := false, laid := [("fenland/chacha.rounds", laid_fenland_chacha_rounds)], narrowed := true }
def ChachaBlocksUptoSaid : Prop := chachaBlocksUptoRow.holds Tryd.pinned (OpenSpec.upto chachaBlocksSpec)

/-- 'fenlandlaw03.ChachaIsLinear', WHERE WHAT IT READS IS OF BULK AT MOST 1048576: true; the input reads as it did. -/
def chachaIsLinearUptoRow : OpenClaim := { program := "ytnooklfhpjfbmaadoor", sum := "f3c3b214c9c3ad6d69d60843ed6187ae639fbbb6e1f7ae87b1ba2834fa4bd7d6", func := "fenland/fenlandlaw03.ChachaIsLinear", spec := "chachaIsLinear", named := ["fenland/chacha.rounds"], apart := false, laid := [("fenland/chacha.rounds", laid_fenland_chacha_rounds)], narrowed := true }
def ChachaIsLinearUptoSaid : Prop := chachaIsLinearUptoRow.holds Tryd.pinned (OpenSpec.upto chachaIsLinearSpec)

/-- 'fenlandlaw03.ChachaInvertsRounds', WHERE WHAT IT READS IS OF BULK AT MOST 1048576: true; the input reads as it did. -/
def chachaInvertsRoundsUptoRow : OpenClaim := { program := "ytnooklfhpjfbmaadoor", sum := "f3c3b214c9c3ad6d69d60843ed6187ae639fbbb6e1f7ae87b1ba2834fa4bd7d6", func := "fenland/fenlandlaw03.ChachaInvertsRounds", spec := "chachaInvertsRounds", named := ["fenland/chacha.rounds"], apart := false, laid := [("fenland/chacha.rounds", laid_fenland_chacha_rounds)], narrowed := true }
def ChachaInvertsRoundsUptoSaid : Prop := chachaInvertsRoundsUptoRow.holds Tryd.pinned (OpenSpec.upto chachaInvertsRoundsSpec)

end Rows
end Go.Proofs.YtnooklfhpjfbmaaDoor
