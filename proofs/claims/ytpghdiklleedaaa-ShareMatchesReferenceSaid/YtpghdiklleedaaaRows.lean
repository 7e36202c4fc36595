/-
  No cell of these rows narrows 'for every input' (looked for: loops, veiled, ifaces, maps, wideKeys, modest, calm, conditions, laid).
  DERIVED. THE GIVEN ROWS OF THIS SEAT. 8 by the template 'for every input the law returns true; each argument reads behind the call as it read before'; 0 by the template 'total and deterministic' (their statements: YtpghdiklleedaaaTotals.lean).
  GIVEN WITH THE SEED: the statements are not yours to turn. If you find one false, say at which input.
  Laid BY PROGRAM, IN A SANDBOX (cutbox-rows.mjs): the forced cells as the released guide's own fill.sh prints them over the translation a752670fc7e86889… (all of the seat's roots in one cut). By AI agents, Wed Nov 11 2026. No macro, syntax, notation, axiom, sorry.
-/
import Derived.Test.YtpghdiklleedaaaChecked
import GoSem.Claim
import GoSem.ClaimJoined
import GoSem.ClaimMapViews
import Derived.JoinedTies
import Derived.KernelRfl
namespace Go.Proofs.Ytpghdiklleedaaa
/- THE CELL 'sum', in the pinned program and in every row, IS THE sha256 OF THE DUMP (.gsa) THAT YtpghdiklleedaaaProg.lean LOADS. Nothing in Lean hashes anything: it is a label: what it is worth is what the hold of that sum in a sandbox is worth. -/
noncomputable def Try.pinned : Pinned := { name := "ytpghdiklleedaaa", sum := "a752670fc7e8688904b2b9578a387ffdb0ee0d78378965439fa80dbb4c3593a5", checked := Try.checked }
namespace Rows
def none {H : Type} : Left H := { results := [], args := [] }

/-- 'fenlandlaw04.ShareFieldMatchesReference': WHATEVER THE INPUT: true; the input reads as it did. -/
def shareFieldMatchesReferenceSpec : ChangeSpec := { name := "shareFieldMatchesReference", fn := fun _ => fun
  | [d1, d2] => { results := [.lit (.bool true)], args := [d1, d2] }
  | _ => none }
def shareFieldMatchesReferenceRow : OpenClaim := { program := "ytpghdiklleedaaa", sum := "a752670fc7e8688904b2b9578a387ffdb0ee0d78378965439fa80dbb4c3593a5", func := "fenland/fenlandlaw04.ShareFieldMatchesReference", spec := "shareFieldMatchesReference", unfollowed := true, recurses := true, apart := false }
def ShareFieldMatchesReferenceSaid : Prop := shareFieldMatchesReferenceRow.holds Try.pinned (OpenSpec.ofChange shareFieldMatchesReferenceSpec)

/-- ITS FALSE NEIGHBOUR: 'it returns false'. Refute it at one input. -/
def shareFieldMatchesReferenceWrong : ChangeSpec := { name := "shareFieldMatchesReference", fn := fun _ => fun
  | [d1, d2] => { results := [.lit (.bool false)], args := [d1, d2] }
  | _ => none }
def ShareFieldMatchesReferenceWrongFalsely : Prop := shareFieldMatchesReferenceRow.holds Try.pinned (OpenSpec.ofChange shareFieldMatchesReferenceWrong)

/-- 'fenlandlaw04.ShareField': WHATEVER THE INPUT: true; the input reads as it did. -/
def shareFieldSpec : ChangeSpec := { name := "shareField", fn := fun _ => fun
  | [d1, d2, d3] => { results := [.lit (.bool true)], args := [d1, d2, d3] }
  | _ => none }
def shareFieldRow : OpenClaim := { program := "ytpghdiklleedaaa", sum := "a752670fc7e8688904b2b9578a387ffdb0ee0d78378965439fa80dbb4c3593a5", func := "fenland/fenlandlaw04.ShareField", spec := "shareField", unfollowed := true, recurses := true, apart := false }
def ShareFieldSaid : Prop := shareFieldRow.holds Try.pinned (OpenSpec.ofChange shareFieldSpec)

/-- ITS FALSE NEIGHBOUR: 'it returns false'. Refute it at one input. -/
def shareFieldWrong : ChangeSpec := { name := "shareField", fn := fun _ => fun
  | [d1, d2, d3] => { results := [.lit (.bool false)], args := [d1, d2, d3] }
  | _ => none }
def ShareFieldWrongFalsely : Prop := shareFieldRow.holds Try.pinned (OpenSpec.ofChange shareFieldWrong)

/-- 'fenlandlaw04.ShareMatchesReference': WHATEVER THE INPUT: true; the input reads as it did. -/
def shareMatchesReferenceSpec : ChangeSpec := { name := "shareMatchesReference", fn := fun _ => fun
  | [d1, d2, d3] => { results := [.lit (.bool true)], args := [d1, d2, d3] }
  | _ => none }
def shareMatchesReferenceRow : OpenClaim := { program := "ytpghdiklleedaaa", sum := "a752670fc7e8688904b2b9578a387ffdb0ee0d78378965439fa80dbb4c3593a5", func := "fenland/fenlandlaw04.ShareMatchesReference", spec := "shareMatchesReference", unfollowed := true, recurses := true, apart := false }
def ShareMatchesReferenceSaid : Prop := shareMatchesReferenceRow.holds Try.pinned (OpenSpec.ofChange shareMatchesReferenceSpec)

/-- ITS FALSE NEIGHBOUR: 'it returns false'. Refute it at one input. -/
def shareMatchesReferenceWrong : ChangeSpec := { name := "shareMatchesReference", fn := fun _ => fun
  | [d1, d2, d3] => { results := [.lit (.bool false)], args := [d1, d2, d3] }
  | _ => none }
def ShareMatchesReferenceWrongFalsely : Prop := shareMatchesReferenceRow.holds Try.pinned (OpenSpec.ofChange shareMatchesReferenceWrong)

/-- 'fenlandlaw04.ShareReconstruct': WHATEVER THE INPUT: true; the input reads as it did. -/
def shareReconstructSpec : ChangeSpec := { name := "shareReconstruct", fn := fun _ => fun
  | [d1, d2] => { results := [.lit (.bool true)], args := [d1, d2] }
  | _ => none }
def shareReconstructRow : OpenClaim := { program := "ytpghdiklleedaaa", sum := "a752670fc7e8688904b2b9578a387ffdb0ee0d78378965439fa80dbb4c3593a5", func := "fenland/fenlandlaw04.ShareReconstruct", spec := "shareReconstruct", unfollowed := true, recurses := true, apart := false }
def ShareReconstructSaid : Prop := shareReconstructRow.holds Try.pinned (OpenSpec.ofChange shareReconstructSpec)

/-- ITS FALSE NEIGHBOUR: 'it returns false'. Refute it at one input. -/
def shareReconstructWrong : ChangeSpec := { name := "shareReconstruct", fn := fun _ => fun
  | [d1, d2] => { results := [.lit (.bool false)], args := [d1, d2] }
  | _ => none }
def ShareReconstructWrongFalsely : Prop := shareReconstructRow.holds Try.pinned (OpenSpec.ofChange shareReconstructWrong)

/-- 'fenlandlaw04.ShareSecret': WHATEVER THE INPUT: true; the input reads as it did. -/
def shareSecretSpec : ChangeSpec := { name := "shareSecret", fn := fun _ => fun
  | [d1, d2, d3] => { results := [.lit (.bool true)], args := [d1, d2, d3] }
  | _ => none }
def shareSecretRow : OpenClaim := { program := "ytpghdiklleedaaa", sum := "a752670fc7e8688904b2b9578a387ffdb0ee0d78378965439fa80dbb4c3593a5", func := "fenland/fenlandlaw04.ShareSecret", spec := "shareSecret", unfollowed := true, recurses := true, apart := false }
def ShareSecretSaid : Prop := shareSecretRow.holds Try.pinned (OpenSpec.ofChange shareSecretSpec)

/-- ITS FALSE NEIGHBOUR: 'it returns false'. Refute it at one input. -/
def shareSecretWrong : ChangeSpec := { name := "shareSecret", fn := fun _ => fun
  | [d1, d2, d3] => { results := [.lit (.bool false)], args := [d1, d2, d3] }
  | _ => none }
def ShareSecretWrongFalsely : Prop := shareSecretRow.holds Try.pinned (OpenSpec.ofChange shareSecretWrong)

/-- 'fenlandlaw04.ShareLinear': WHATEVER THE INPUT: true; the input reads as it did. -/
def shareLinearSpec : ChangeSpec := { name := "shareLinear", fn := fun _ => fun
  | [d1, d2] => { results := [.lit (.bool true)], args := [d1, d2] }
  | _ => none }
def shareLinearRow : OpenClaim := { program := "ytpghdiklleedaaa", sum := "a752670fc7e8688904b2b9578a387ffdb0ee0d78378965439fa80dbb4c3593a5", func := "fenland/fenlandlaw04.ShareLinear", spec := "shareLinear", unfollowed := true, recurses := true, apart := false }
def ShareLinearSaid : Prop := shareLinearRow.holds Try.pinned (OpenSpec.ofChange shareLinearSpec)

/-- ITS FALSE NEIGHBOUR: 'it returns false'. Refute it at one input. -/
def shareLinearWrong : ChangeSpec := { name := "shareLinear", fn := fun _ => fun
  | [d1, d2] => { results := [.lit (.bool false)], args := [d1, d2] }
  | _ => none }
def ShareLinearWrongFalsely : Prop := shareLinearRow.holds Try.pinned (OpenSpec.ofChange shareLinearWrong)

/-- 'fenlandlaw04.ShareRefresh': WHATEVER THE INPUT: true; the input reads as it did. -/
def shareRefreshSpec : ChangeSpec := { name := "shareRefresh", fn := fun _ => fun
  | [d1, d2] => { results := [.lit (.bool true)], args := [d1, d2] }
  | _ => none }
def shareRefreshRow : OpenClaim := { program := "ytpghdiklleedaaa", sum := "a752670fc7e8688904b2b9578a387ffdb0ee0d78378965439fa80dbb4c3593a5", func := "fenland/fenlandlaw04.ShareRefresh", spec := "shareRefresh", unfollowed := true, recurses := true, apart := false }
def ShareRefreshSaid : Prop := shareRefreshRow.holds Try.pinned (OpenSpec.ofChange shareRefreshSpec)

/-- ITS FALSE NEIGHBOUR: 'it returns false'. Refute it at one input. -/
def shareRefreshWrong : ChangeSpec := { name := "shareRefresh", fn := fun _ => fun
  | [d1, d2] => { results := [.lit (.bool false)], args := [d1, d2] }
  | _ => none }
def ShareRefreshWrongFalsely : Prop := shareRefreshRow.holds Try.pinned (OpenSpec.ofChange shareRefreshWrong)

/-- 'fenlandlaw04.ShareDetect': WHATEVER THE INPUT: true; the input reads as it did. -/
def shareDetectSpec : ChangeSpec := { name := "shareDetect", fn := fun _ => fun
  | [d1, d2] => { results := [.lit (.bool true)], args := [d1, d2] }
  | _ => none }
def shareDetectRow : OpenClaim := { program := "ytpghdiklleedaaa", sum := "a752670fc7e8688904b2b9578a387ffdb0ee0d78378965439fa80dbb4c3593a5", func := "fenland/fenlandlaw04.ShareDetect", spec := "shareDetect", unfollowed := true, recurses := true, apart := false }
def ShareDetectSaid : Prop := shareDetectRow.holds Try.pinned (OpenSpec.ofChange shareDetectSpec)

/-- ITS FALSE NEIGHBOUR: 'it returns false'. Refute it at one input. -/
def shareDetectWrong : ChangeSpec := { name := "shareDetect", fn := fun _ => fun
  | [d1, d2] => { results := [.lit (.bool false)], args := [d1, d2] }
  | _ => none }
def ShareDetectWrongFalsely : Prop := shareDetectRow.holds Try.pinned (OpenSpec.ofChange shareDetectWrong)

/- THE SECOND FORM. 'bulk': how many values and letters a reading holds, each counted each time it is reached (what is shared counts as often as it is met; a slice's spare places count too). A statement '..UptoSaid' is the law's where the arguments, and the package variables that the reading takes, are together of bulk at most 1048576: NARROWER than '..Said'. Prove '..Said' where nothing that the law and all that it calls make is longer than what came in: it says more and counts as full. Else prove '..UptoSaid'. A law counts once. -/
mutual
def uptoBulk {H : Type} : DataW H → Nat
  | .lit (.string bytes) => bytes.length + 1
  | .lit _ => 1
  | .nil => 1
  | .ptr d => uptoBulk d + 1
  | .slice elems spare => uptoBulkAll elems + uptoBulkAll spare + 1
  | .agg parts => uptoBulkAll parts + 1
  | .iface _ d => uptoBulk d + 1
  | .map entries => uptoBulkEntries entries + 1
  | .held _ => 1
def uptoBulkAll {H : Type} : List (DataW H) → Nat
  | [] => 0
  | d :: r => uptoBulk d + uptoBulkAll r
def uptoBulkEntries {H : Type} : List (Lit × DataW H) → Nat
  | [] => 0
  | x :: r => uptoBulkEntry x + uptoBulkEntries r
def uptoBulkEntry {H : Type} : Lit × DataW H → Nat
  | (.string bytes, d) => bytes.length + uptoBulk d + 1
  | (_, d) => uptoBulk d + 1
 end
def uptoSmall : (H : Type) → List (DataW H) → Bool := fun _ ds => decide (uptoBulkAll ds ≤ 1048576)
def OpenSpec.upto (s : _root_.Go.ChangeSpec) : _root_.Go.OpenSpec := { _root_.Go.OpenSpec.ofChange s with cond := some uptoSmall }

/-- 'fenlandlaw04.ShareFieldMatchesReference', WHERE WHAT IT READS IS OF BULK AT MOST 1048576: true; the input reads as it did. -/
def shareFieldMatchesReferenceUptoRow : OpenClaim := { program := "ytpghdiklleedaaa", sum := "a752670fc7e8688904b2b9578a387ffdb0ee0d78378965439fa80dbb4c3593a5", func := "fenland/fenlandlaw04.ShareFieldMatchesReference", spec := "shareFieldMatchesReference", unfollowed := true, recurses := true, apart := false, narrowed := true }
def ShareFieldMatchesReferenceUptoSaid : Prop := shareFieldMatchesReferenceUptoRow.holds Try.pinned (OpenSpec.upto shareFieldMatchesReferenceSpec)

/-- 'fenlandlaw04.ShareField', WHERE WHAT IT READS IS OF BULK AT MOST 1048576: true; the input reads as it did. -/
def shareFieldUptoRow : OpenClaim := { program := "ytpghdiklleedaaa", sum := "a752670fc7e8688904b2b9578a387ffdb0ee0d78378965439fa80dbb4c3593a5", func := "fenland/fenlandlaw04.ShareField", spec := "shareField", unfollowed := true, recurses := true, apart := false, narrowed := true }
def ShareFieldUptoSaid : Prop := shareFieldUptoRow.holds Try.pinned (OpenSpec.upto shareFieldSpec)

/-- 'fenlandlaw04.ShareMatchesReference', WHERE WHAT IT READS IS OF BULK AT MOST 1048576: true; the input reads as it did. -/
def shareMatchesReferenceUptoRow : OpenClaim := { program := "ytpghdiklleedaaa", sum := "a752670fc7e8688904b2b9578a387ffdb0ee0d78378965439fa80dbb4c3593a5", func := "fenland/fenlandlaw04.ShareMatchesReference", spec := "shareMatchesReference", unfollowed := true, recurses := true, apart := false, narrowed := true }
def ShareMatchesReferenceUptoSaid : Prop := shareMatchesReferenceUptoRow.holds Try.pinned (OpenSpec.upto shareMatchesReferenceSpec)

/-- 'fenlandlaw04.ShareReconstruct', WHERE WHAT IT READS IS OF BULK AT MOST 1048576: true; the input reads as it did. -/
def shareReconstructUptoRow : OpenClaim := { program := "ytpghdiklleedaaa", sum := "a752670fc7e8688904b2b9578a387ffdb0ee0d78378965439fa80dbb4c3593a5", func := "fenland/fenlandlaw04.ShareReconstruct", spec := "shareReconstruct", unfollowed := true, recurses := true, apart := false, narrowed := true }
def ShareReconstructUptoSaid : Prop := shareReconstructUptoRow.holds Try.pinned (OpenSpec.upto shareReconstructSpec)

/-- 'fenlandlaw04.ShareSecret', WHERE WHAT IT READS IS OF BULK AT MOST 1048576: true; the input reads as it did. -/
def shareSecretUptoRow : OpenClaim := { program := "ytpghdiklleedaaa", sum := "a752670fc7e8688904b2b9578a387ffdb0ee0d78378965439fa80dbb4c3593a5", func := "fenland/fenlandlaw04.ShareSecret", spec := "shareSecret", unfollowed := true, recurses := true, apart := false, narrowed := true }
def ShareSecretUptoSaid : Prop := shareSecretUptoRow.holds Try.pinned (OpenSpec.upto shareSecretSpec)

/-- 'fenlandlaw04.ShareLinear', WHERE WHAT IT READS IS OF BULK AT MOST 1048576: true; the input reads as it did. -/
def shareLinearUptoRow : OpenClaim := { program := "ytpghdiklleedaaa", sum := "a752670fc7e8688904b2b9578a387ffdb0ee0d78378965439fa80dbb4c3593a5", func := "fenland/fenlandlaw04.ShareLinear", spec := "shareLinear", unfollowed := true, recurses := true, apart := false, narrowed := true }
def ShareLinearUptoSaid : Prop := shareLinearUptoRow.holds Try.pinned (OpenSpec.upto shareLinearSpec)

/-- 'fenlandlaw04.ShareRefresh', WHERE WHAT IT READS IS OF BULK AT MOST 1048576: true; the input reads as it did. -/
def shareRefreshUptoRow : OpenClaim := { program := "ytpghdiklleedaaa", sum := "a752670fc7e8688904b2b9578a387ffdb0ee0d78378965439fa80dbb4c3593a5", func := "fenland/fenlandlaw04.ShareRefresh", spec := "shareRefresh", unfollowed := true, recurses := true, apart := false, narrowed := true }
def ShareRefreshUptoSaid : Prop := shareRefreshUptoRow.holds Try.pinned (OpenSpec.upto shareRefreshSpec)

/-- 'fenlandlaw04.ShareDetect', WHERE WHAT IT READS IS OF BULK AT MOST 1048576: true; the input reads as it did. -/
def shareDetectUptoRow : OpenClaim := { program := "ytpghdiklleedaaa", sum := "a752670fc7e8688904b2b9578a387ffdb0ee0d78378965439fa80dbb4c3593a5", func := "fenland/fenlandlaw04.ShareDetect", spec := "shareDetect", unfollowed := true, recurses := true, apart := false, narrowed := true }
def ShareDetectUptoSaid : Prop := shareDetectUptoRow.holds Try.pinned (OpenSpec.upto shareDetectSpec)

end Rows
end Go.Proofs.Ytpghdiklleedaaa
