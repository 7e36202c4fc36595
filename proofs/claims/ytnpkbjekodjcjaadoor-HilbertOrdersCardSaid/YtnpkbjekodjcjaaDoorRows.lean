/-
  NARROWER THAN 'FOR EVERY INPUT', by the rows' own cells (each row's printed sentence says how): HilbertMatchesReference: laid · HilbertIsBijective: laid · HilbertIsContinuous: laid · HilbertKeepsSquares: laid · HilbertScales: laid · HilbertOrders: laid · HilbertCovers: laid.
  DERIVED. THE GIVEN ROWS OF THIS SEAT. 7 by the template 'for every input the law returns true; each argument reads behind the call as it read before'; 0 by the template 'total and deterministic' (their statements: YtnpkbjekodjcjaaDoorTotals.lean).
  GIVEN WITH THE SEED: the statements are not yours to turn. If you find one false, say at which input.
  Laid BY PROGRAM, IN A SANDBOX (cutbox-rows.mjs): the forced cells as the released guide's own fill.sh prints them over the translation 4ac5c87cac3d670d… (all of the seat's roots in one cut). By AI agents, Wed Nov 11 2026. No macro, syntax, notation, axiom, sorry.
-/
import Derived.Test.YtnpkbjekodjcjaaDoorChecked
import GoSem.Claim
import GoSem.ClaimJoined
import GoSem.ClaimMapViews
import Derived.JoinedTies
import Derived.KernelRfl
namespace Go.Proofs.YtnpkbjekodjcjaaDoor
/- THE CELL 'sum', in the pinned program and in every row, IS THE sha256 OF THE DUMP (.gsa) THAT YtnpkbjekodjcjaaDoorProg.lean LOADS. Nothing in Lean hashes anything: it is a label: what it is worth is what the hold of that sum in a sandbox is worth. -/
noncomputable def Tryd.pinned : Pinned := { name := "ytnpkbjekodjcjaadoor", sum := "4ac5c87cac3d670d984bb4c27775252a28fe4f41e636f27243b101130ca42e74", checked := Tryd.checked }
namespace Rows
def none {H : Type} : Left H := { results := [], args := [] }

/- WHAT THE LISTED PACKAGE-LEVEL VARIABLES READ AS WHEN THE CALL BEGINS. Each datum BY PROGRAM (the guide's laid-datum.mjs) off the statement by which the dump's own 'gosem.cut.vars' lays the variable. In a bare row this is a premise. The card (YtnpkbjekodjcjaaDoorCards.lean) ties it to the program's text. -/
def laid_fenland_hilbert_quadrants {H : Type} : DataW H := .iface "func table" (.agg [.agg [.lit (.int .u32 0), .lit (.int .u32 0), .iface "func" (.lit (.string [102, 101, 110, 108, 97, 110, 100, 47, 104, 105, 108, 98, 101, 114, 116, 46, 115, 119, 97, 112, 112, 101, 100])), .iface "func" (.lit (.string [102, 101, 110, 108, 97, 110, 100, 47, 104, 105, 108, 98, 101, 114, 116, 46, 115, 119, 97, 112, 112, 101, 100]))], .agg [.lit (.int .u32 0), .lit (.int .u32 1), .iface "func" (.lit (.string [102, 101, 110, 108, 97, 110, 100, 47, 104, 105, 108, 98, 101, 114, 116, 46, 115, 97, 109, 101])), .iface "func" (.lit (.string [102, 101, 110, 108, 97, 110, 100, 47, 104, 105, 108, 98, 101, 114, 116, 46, 115, 97, 109, 101]))], .agg [.lit (.int .u32 1), .lit (.int .u32 1), .iface "func" (.lit (.string [102, 101, 110, 108, 97, 110, 100, 47, 104, 105, 108, 98, 101, 114, 116, 46, 115, 97, 109, 101])), .iface "func" (.lit (.string [102, 101, 110, 108, 97, 110, 100, 47, 104, 105, 108, 98, 101, 114, 116, 46, 115, 97, 109, 101]))], .agg [.lit (.int .u32 1), .lit (.int .u32 0), .iface "func" (.lit (.string [102, 101, 110, 108, 97, 110, 100, 47, 104, 105, 108, 98, 101, 114, 116, 46, 116, 117, 114, 110, 101, 100])), .iface "func" (.lit (.string [102, 101, 110, 108, 97, 110, 100, 47, 104, 105, 108, 98, 101, 114, 116, 46, 116, 117, 114, 110, 101, 100]))]])

/-- 'fenlandlaw12.HilbertMatchesReference': WHATEVER THE INPUT: true; the input reads as it did. -/
def hilbertMatchesReferenceSpec : ChangeSpec := { name := "hilbertMatchesReference", fn := fun _ => fun
  | [d1, d2, d3] => { results := [.lit (.bool true)], args := [d1, d2, d3] }
  | _ => none }
def hilbertMatchesReferenceRow : OpenClaim := { program := "ytnpkbjekodjcjaadoor", sum := "4ac5c87cac3d670d984bb4c27775252a28fe4f41e636f27243b101130ca42e74", func := "fenland/fenlandlaw12.HilbertMatchesReference", spec := "hilbertMatchesReference", unfollowed := true, recurses := true, named := ["fenland/hilbert.quadrants", "math/bits.divideError", "math/bits.overflowError"], apart := false, laid := [("fenland/hilbert.quadrants", laid_fenland_hilbert_quadrants)] }
def HilbertMatchesReferenceSaid : Prop := hilbertMatchesReferenceRow.holds Tryd.pinned (OpenSpec.ofChange hilbertMatchesReferenceSpec)

/-- ITS FALSE NEIGHBOUR: 'it returns false'. Refute it at one input. -/
def hilbertMatchesReferenceWrong : ChangeSpec := { name := "hilbertMatchesReference", fn := fun _ => fun
  | [d1, d2, d3] => { results := [.lit (.bool false)], args := [d1, d2, d3] }
  | _ => none }
def HilbertMatchesReferenceWrongFalsely : Prop := hilbertMatchesReferenceRow.holds Tryd.pinned (OpenSpec.ofChange hilbertMatchesReferenceWrong)

/-- 'fenlandlaw12.HilbertIsBijective': WHATEVER THE INPUT: true; the input reads as it did. -/
def hilbertIsBijectiveSpec : ChangeSpec := { name := "hilbertIsBijective", fn := fun _ => fun
  | [d1, d2, d3] => { results := [.lit (.bool true)], args := [d1, d2, d3] }
  | _ => none }
def hilbertIsBijectiveRow : OpenClaim := { program := "ytnpkbjekodjcjaadoor", sum := "4ac5c87cac3d670d984bb4c27775252a28fe4f41e636f27243b101130ca42e74", func := "fenland/fenlandlaw12.HilbertIsBijective", spec := "hilbertIsBijective", unfollowed := true, recurses := true, named := ["fenland/hilbert.quadrants", "math/bits.divideError", "math/bits.overflowError"], apart := false, laid := [("fenland/hilbert.quadrants", laid_fenland_hilbert_quadrants)] }
def HilbertIsBijectiveSaid : Prop := hilbertIsBijectiveRow.holds Tryd.pinned (OpenSpec.ofChange hilbertIsBijectiveSpec)

/-- ITS FALSE NEIGHBOUR: 'it returns false'. Refute it at one input. -/
def hilbertIsBijectiveWrong : ChangeSpec := { name := "hilbertIsBijective", fn := fun _ => fun
  | [d1, d2, d3] => { results := [.lit (.bool false)], args := [d1, d2, d3] }
  | _ => none }
def HilbertIsBijectiveWrongFalsely : Prop := hilbertIsBijectiveRow.holds Tryd.pinned (OpenSpec.ofChange hilbertIsBijectiveWrong)

/-- 'fenlandlaw12.HilbertIsContinuous': WHATEVER THE INPUT: true; the input reads as it did. -/
def hilbertIsContinuousSpec : ChangeSpec := { name := "hilbertIsContinuous", fn := fun _ => fun
  | [d1, d2] => { results := [.lit (.bool true)], args := [d1, d2] }
  | _ => none }
def hilbertIsContinuousRow : OpenClaim := { program := "ytnpkbjekodjcjaadoor", sum := "4ac5c87cac3d670d984bb4c27775252a28fe4f41e636f27243b101130ca42e74", func := "fenland/fenlandlaw12.HilbertIsContinuous", spec := "hilbertIsContinuous", unfollowed := true, recurses := true, named := ["fenland/hilbert.quadrants", "math/bits.divideError", "math/bits.overflowError"], apart := false, laid := [("fenland/hilbert.quadrants", laid_fenland_hilbert_quadrants)] }
def HilbertIsContinuousSaid : Prop := hilbertIsContinuousRow.holds Tryd.pinned (OpenSpec.ofChange hilbertIsContinuousSpec)

/-- ITS FALSE NEIGHBOUR: 'it returns false'. Refute it at one input. -/
def hilbertIsContinuousWrong : ChangeSpec := { name := "hilbertIsContinuous", fn := fun _ => fun
  | [d1, d2] => { results := [.lit (.bool false)], args := [d1, d2] }
  | _ => none }
def HilbertIsContinuousWrongFalsely : Prop := hilbertIsContinuousRow.holds Tryd.pinned (OpenSpec.ofChange hilbertIsContinuousWrong)

/-- 'fenlandlaw12.HilbertKeepsSquares': WHATEVER THE INPUT: true; the input reads as it did. -/
def hilbertKeepsSquaresSpec : ChangeSpec := { name := "hilbertKeepsSquares", fn := fun _ => fun
  | [d1, d2, d3] => { results := [.lit (.bool true)], args := [d1, d2, d3] }
  | _ => none }
def hilbertKeepsSquaresRow : OpenClaim := { program := "ytnpkbjekodjcjaadoor", sum := "4ac5c87cac3d670d984bb4c27775252a28fe4f41e636f27243b101130ca42e74", func := "fenland/fenlandlaw12.HilbertKeepsSquares", spec := "hilbertKeepsSquares", unfollowed := true, recurses := true, named := ["fenland/hilbert.quadrants", "math/bits.divideError", "math/bits.overflowError"], apart := false, laid := [("fenland/hilbert.quadrants", laid_fenland_hilbert_quadrants)] }
def HilbertKeepsSquaresSaid : Prop := hilbertKeepsSquaresRow.holds Tryd.pinned (OpenSpec.ofChange hilbertKeepsSquaresSpec)

/-- ITS FALSE NEIGHBOUR: 'it returns false'. Refute it at one input. -/
def hilbertKeepsSquaresWrong : ChangeSpec := { name := "hilbertKeepsSquares", fn := fun _ => fun
  | [d1, d2, d3] => { results := [.lit (.bool false)], args := [d1, d2, d3] }
  | _ => none }
def HilbertKeepsSquaresWrongFalsely : Prop := hilbertKeepsSquaresRow.holds Tryd.pinned (OpenSpec.ofChange hilbertKeepsSquaresWrong)

/-- 'fenlandlaw12.HilbertScales': WHATEVER THE INPUT: true; the input reads as it did. -/
def hilbertScalesSpec : ChangeSpec := { name := "hilbertScales", fn := fun _ => fun
  | [d1, d2] => { results := [.lit (.bool true)], args := [d1, d2] }
  | _ => none }
def hilbertScalesRow : OpenClaim := { program := "ytnpkbjekodjcjaadoor", sum := "4ac5c87cac3d670d984bb4c27775252a28fe4f41e636f27243b101130ca42e74", func := "fenland/fenlandlaw12.HilbertScales", spec := "hilbertScales", unfollowed := true, recurses := true, named := ["fenland/hilbert.quadrants", "math/bits.divideError", "math/bits.overflowError"], apart := false, laid := [("fenland/hilbert.quadrants", laid_fenland_hilbert_quadrants)] }
def HilbertScalesSaid : Prop := hilbertScalesRow.holds Tryd.pinned (OpenSpec.ofChange hilbertScalesSpec)

/-- ITS FALSE NEIGHBOUR: 'it returns false'. Refute it at one input. -/
def hilbertScalesWrong : ChangeSpec := { name := "hilbertScales", fn := fun _ => fun
  | [d1, d2] => { results := [.lit (.bool false)], args := [d1, d2] }
  | _ => none }
def HilbertScalesWrongFalsely : Prop := hilbertScalesRow.holds Tryd.pinned (OpenSpec.ofChange hilbertScalesWrong)

/-- 'fenlandlaw12.HilbertOrders': WHATEVER THE INPUT: true; the input reads as it did. -/
def hilbertOrdersSpec : ChangeSpec := { name := "hilbertOrders", fn := fun _ => fun
  | [d1, d2, d3] => { results := [.lit (.bool true)], args := [d1, d2, d3] }
  | _ => none }
def hilbertOrdersRow : OpenClaim := { program := "ytnpkbjekodjcjaadoor", sum := "4ac5c87cac3d670d984bb4c27775252a28fe4f41e636f27243b101130ca42e74", func := "fenland/fenlandlaw12.HilbertOrders", spec := "hilbertOrders", unfollowed := true, recurses := true, named := ["fenland/hilbert.quadrants", "math/bits.divideError", "math/bits.overflowError"], apart := false, laid := [("fenland/hilbert.quadrants", laid_fenland_hilbert_quadrants)] }
def HilbertOrdersSaid : Prop := hilbertOrdersRow.holds Tryd.pinned (OpenSpec.ofChange hilbertOrdersSpec)

/-- ITS FALSE NEIGHBOUR: 'it returns false'. Refute it at one input. -/
def hilbertOrdersWrong : ChangeSpec := { name := "hilbertOrders", fn := fun _ => fun
  | [d1, d2, d3] => { results := [.lit (.bool false)], args := [d1, d2, d3] }
  | _ => none }
def HilbertOrdersWrongFalsely : Prop := hilbertOrdersRow.holds Tryd.pinned (OpenSpec.ofChange hilbertOrdersWrong)

/-- 'fenlandlaw12.HilbertCovers': WHATEVER THE INPUT: true; the input reads as it did. -/
def hilbertCoversSpec : ChangeSpec := { name := "hilbertCovers", fn := fun _ => fun
  | [d1, d2, d3] => { results := [.lit (.bool true)], args := [d1, d2, d3] }
  | _ => none }
def hilbertCoversRow : OpenClaim := { program := "ytnpkbjekodjcjaadoor", sum := "4ac5c87cac3d670d984bb4c27775252a28fe4f41e636f27243b101130ca42e74", func := "fenland/fenlandlaw12.HilbertCovers", spec := "hilbertCovers", unfollowed := true, recurses := true, named := ["fenland/hilbert.quadrants", "math/bits.divideError", "math/bits.overflowError"], apart := false, laid := [("fenland/hilbert.quadrants", laid_fenland_hilbert_quadrants)] }
def HilbertCoversSaid : Prop := hilbertCoversRow.holds Tryd.pinned (OpenSpec.ofChange hilbertCoversSpec)

/-- ITS FALSE NEIGHBOUR: 'it returns false'. Refute it at one input. -/
def hilbertCoversWrong : ChangeSpec := { name := "hilbertCovers", fn := fun _ => fun
  | [d1, d2, d3] => { results := [.lit (.bool false)], args := [d1, d2, d3] }
  | _ => none }
def HilbertCoversWrongFalsely : Prop := hilbertCoversRow.holds Tryd.pinned (OpenSpec.ofChange hilbertCoversWrong)

/- THE SECOND FORM. 'bulk': how many values and letters a reading holds, each counted each time it is reached (what is shared counts as often as it is met; a slice's spare places count too). A statement '..UptoSaid' is the law's where the arguments, and the package variables that the reading takes, are together of bulk at most 1048576: NARROWER than '..Said'. Prove '..Said' where nothing that the law and all that it calls make is longer than what came in: it says more and counts as full. Else prove '..UptoSaid'. A law counts once. -/
mutual
def uptoBulk {H : Type} : DataW H → Nat
  | .lit (.string bytes) => bytes.length + 1
  | .lit _ => 1
  | .nil => 1
  | .ptr d => uptoBulk d + 1
  | .slice elems spare => uptoBulkAll elems + uptoBulkAll spare + 1
  | .agg parts => uptoBulkAll parts + 1
  | .iface _ d => uptoBulk d + 1
  | .map entries => uptoBulkEntries entries + 1
  | .held _ => 1
def uptoBulkAll {H : Type} : List (DataW H) → Nat
  | [] => 0
  | d :: r => uptoBulk d + uptoBulkAll r
def uptoBulkEntries {H : Type} : List (Lit × DataW H) → Nat
  | [] => 0
  | x :: r => uptoBulkEntry x + uptoBulkEntries r
def uptoBulkEntry {H : Type} : Lit × DataW H → Nat
  | (.string bytes, d) => bytes.length + uptoBulk d + 1
  | (_, d) => uptoBulk d + 1
 end
def uptoSmall : (H : Type) → List (DataW H) → Bool := fun _ ds => decide (uptoBulkAll ds ≤ 1048576)
def OpenSpec.upto (s : _root_.Go.ChangeSpec) : _root_.Go.OpenSpec := { _root_.Go.OpenSpec.ofChange s with cond := some uptoSmall }

/-- 'fenlandlaw12.HilbertMatchesReference', WHERE WHAT IT READS IS OF BULK AT MOST 1048576: true; the input reads as it did. -/
def hilbertMatchesReferenceUptoRow : OpenClaim := { program := "ytnpkbjekodjcjaadoor", sum := "4ac5c87cac3d670d984bb4c27775252a28fe4f41e636f27243b101130ca42e74", func := "fenland/fenlandlaw12.HilbertMatchesReference", spec := "hilbertMatchesReference", unfollowed := true, recurses := true, named := ["fenland/hilbert.quadrants", "math/bits.divideError", "math/bits.overflowError"], apart := false, laid := [("fenland/hilbert.quadrants", laid_fenland_hilbert_quadrants)], narrowed := true }
def HilbertMatchesReferenceUptoSaid : Prop := hilbertMatchesReferenceUptoRow.holds Tryd.pinned (OpenSpec.upto hilbertMatchesReferenceSpec)

/-- 'fenlandlaw12.HilbertIsBijective', WHERE WHAT IT READS IS OF BULK AT MOST 1048576: true; the input reads as it did. -/
def hilbertIsBijectiveUptoRow : OpenClaim := { program := "ytnpkbjekodjcjaadoor", sum := "4ac5c87cac3d670d984bb4c27775252a28fe4f41e636f27243b101130ca42e74", func := "fenland/fenlandlaw12.HilbertIsBijective", spec := "hilbertIsBijective", unfollowed := true, recurses := true, named := ["fenland/hilbert.quadrants", "math/bits.divideError", "math/bits.overflowError"], apart := false, laid := [("fenland/hilbert.quadrants", laid_fenland_hilbert_quadrants)], narrowed := true }
def HilbertIsBijectiveUptoSaid : Prop := hilbertIsBijectiveUptoRow.holds Tryd.pinned (OpenSpec.upto hilbertIsBijectiveSpec)

/-- 'fenlandlaw12.HilbertIsContinuous', WHERE WHAT IT READS IS OF BULK AT MOST 1048576: true; the input reads as it did. -/
def hilbertIsContinuousUptoRow : OpenClaim := { program := "ytnpkbjekodjcjaadoor", sum := "4ac5c87cac3d670d984bb4c27775252a28fe4f41e636f27243b101130ca42e74", func := "fenland/fenlandlaw12.HilbertIsContinuous", spec := "hilbertIsContinuous", unfollowed := true, recurses := true, named := ["fenland/hilbert.quadrants", "math/bits.divideError", "math/bits.overflowError"], apart := false, laid := [("fenland/hilbert.quadrants", laid_fenland_hilbert_quadrants)], narrowed := true }
def HilbertIsContinuousUptoSaid : Prop := hilbertIsContinuousUptoRow.holds Tryd.pinned (OpenSpec.upto hilbertIsContinuousSpec)

/-- 'fenlandlaw12.HilbertKeepsSquares', WHERE WHAT IT READS IS OF BULK AT MOST 1048576: true; the input reads as it did. -/
def hilbertKeepsSquaresUptoRow : OpenClaim := { program := "ytnpkbjekodjcjaadoor", sum := "4ac5c87cac3d670d984bb4c27775252a28fe4f41e636f27243b101130ca42e74", func := "fenland/fenlandlaw12.HilbertKeepsSquares", spec := "hilbertKeepsSquares", unfollowed := true, recurses := true, named := ["fenland/hilbert.quadrants", "math/bits.divideError", "math/bits.overflowError"], apart := false, laid := [("fenland/hilbert.quadrants", laid_fenland_hilbert_quadrants)], narrowed := true }
def HilbertKeepsSquaresUptoSaid : Prop := hilbertKeepsSquaresUptoRow.holds Tryd.pinned (OpenSpec.upto hilbertKeepsSquaresSpec)

/-- 'fenlandlaw12.HilbertScales', WHERE WHAT IT READS IS OF BULK AT MOST 1048576: true; the input reads as it did. -/
def hilbertScalesUptoRow : OpenClaim := { program := "ytnpkbjekodjcjaadoor", sum := "4ac5c87cac3d670d984bb4c27775252a28fe4f41e636f27243b101130ca42e74", func := "fenland/fenlandlaw12.HilbertScales", spec := "hilbertScales", unfollowed := true, recurses := true, named := ["fenland/hilbert.quadrants", "math/bits.divideError", "math/bits.overflowError"], apart := false, laid := [("fenland/hilbert.quadrants", laid_fenland_hilbert_quadrants)], narrowed := true }
def HilbertScalesUptoSaid : Prop := hilbertScalesUptoRow.holds Tryd.pinned (OpenSpec.upto hilbertScalesSpec)

/-- 'fenlandlaw12.HilbertOrders', WHERE WHAT IT READS IS OF BULK AT MOST 1048576: true; the input reads as it did. -/
def hilbertOrdersUptoRow : OpenClaim := { program := "ytnpkbjekodjcjaadoor", sum := "4ac5c87cac3d670d984bb4c27775252a28fe4f41e636f27243b101130ca42e74", func := "fenland/fenlandlaw12.HilbertOrders", spec := "hilbertOrders", unfollowed := true, recurses := true, named := ["fenland/hilbert.quadrants", "math/bits.divideError", "math/bits.overflowError"], apart := false, laid := [("fenland/hilbert.quadrants", laid_fenland_hilbert_quadrants)], narrowed := true }
def HilbertOrdersUptoSaid : Prop := hilbertOrdersUptoRow.holds Tryd.pinned (OpenSpec.upto hilbertOrdersSpec)

/-- 'fenlandlaw12.HilbertCovers', WHERE WHAT IT READS IS OF BULK AT MOST 1048576: true; the input reads as it did. -/
def hilbertCoversUptoRow : OpenClaim := { program := "ytnpkbjekodjcjaadoor", sum := "4ac5c87cac3d670d984bb4c27775252a28fe4f41e636f27243b101130ca42e74", func := "fenland/fenlandlaw12.HilbertCovers", spec := "hilbertCovers", unfollowed := true, recurses := true, named := ["fenland/hilbert.quadrants", "math/bits.divideError", "math/bits.overflowError"], apart := false, laid := [("fenland/hilbert.quadrants", laid_fenland_hilbert_quadrants)], narrowed := true }
def HilbertCoversUptoSaid : Prop := hilbertCoversUptoRow.holds Tryd.pinned (OpenSpec.upto hilbertCoversSpec)

end Rows
end Go.Proofs.YtnpkbjekodjcjaaDoor
