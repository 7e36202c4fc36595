/-
  DERIVED. GIVEN WITH THE SEED: THE CARDS: each row of YtnpkbjekodjcjaaDoorRows.lean that lists a variable, with what it lists TIED to the program's text (the seventh form; the later family's looks); each row that meets fmt, with fmt's text TOLD by the authors' own Lean function (tested against real Go, not proved from fmt's source: count such statements apart). THE CARD IS WHAT COUNTS. Prove the row's statement (the work); the ties are given (YtnpkbjekodjcjaaDoorTie.lean); close each card by the builder's one call (the guide's Derived/Test/ToyasCard.lean, 'card_holds'). Laid BY PROGRAM, IN A SANDBOX (cutbox-door.mjs). By AI agents, Wed Nov 11 2026. No macro, syntax, notation, axiom, sorry.
-/
import Derived.Test.YtnpkbjekodjcjaaDoorRows
import GoSem.ClaimSeven
namespace Go.Proofs.YtnpkbjekodjcjaaDoor
namespace Rows

/-- THE TIED CARD OF 'fenlandlaw12.HilbertMatchesReference'. -/
def hilbertMatchesReferenceCard : Claim7 := { stood := { row := hilbertMatchesReferenceRow, standIns := [], harness := (true, "2e44d7ea2897f82dbc1cd4085afce5426b6413760111c03f061e029d24b37a34"), looks := false }, kinds := [], alts := [], laidByText := true, laidKinds := [.funcsDeep], laidTests := true, laidLooks := .later }
def HilbertMatchesReferenceCardSaid : Prop := Claim7.holds Tryd.pinned (.plain (OpenSpec.ofChange hilbertMatchesReferenceSpec)) hilbertMatchesReferenceCard

/-- THE TIED CARD OF 'fenlandlaw12.HilbertIsBijective'. -/
def hilbertIsBijectiveCard : Claim7 := { stood := { row := hilbertIsBijectiveRow, standIns := [], harness := (true, "2e44d7ea2897f82dbc1cd4085afce5426b6413760111c03f061e029d24b37a34"), looks := false }, kinds := [], alts := [], laidByText := true, laidKinds := [.funcsDeep], laidTests := true, laidLooks := .later }
def HilbertIsBijectiveCardSaid : Prop := Claim7.holds Tryd.pinned (.plain (OpenSpec.ofChange hilbertIsBijectiveSpec)) hilbertIsBijectiveCard

/-- THE TIED CARD OF 'fenlandlaw12.HilbertIsContinuous'. -/
def hilbertIsContinuousCard : Claim7 := { stood := { row := hilbertIsContinuousRow, standIns := [], harness := (true, "2e44d7ea2897f82dbc1cd4085afce5426b6413760111c03f061e029d24b37a34"), looks := false }, kinds := [], alts := [], laidByText := true, laidKinds := [.funcsDeep], laidTests := true, laidLooks := .later }
def HilbertIsContinuousCardSaid : Prop := Claim7.holds Tryd.pinned (.plain (OpenSpec.ofChange hilbertIsContinuousSpec)) hilbertIsContinuousCard

/-- THE TIED CARD OF 'fenlandlaw12.HilbertKeepsSquares'. -/
def hilbertKeepsSquaresCard : Claim7 := { stood := { row := hilbertKeepsSquaresRow, standIns := [], harness := (true, "2e44d7ea2897f82dbc1cd4085afce5426b6413760111c03f061e029d24b37a34"), looks := false }, kinds := [], alts := [], laidByText := true, laidKinds := [.funcsDeep], laidTests := true, laidLooks := .later }
def HilbertKeepsSquaresCardSaid : Prop := Claim7.holds Tryd.pinned (.plain (OpenSpec.ofChange hilbertKeepsSquaresSpec)) hilbertKeepsSquaresCard

/-- THE TIED CARD OF 'fenlandlaw12.HilbertScales'. -/
def hilbertScalesCard : Claim7 := { stood := { row := hilbertScalesRow, standIns := [], harness := (true, "2e44d7ea2897f82dbc1cd4085afce5426b6413760111c03f061e029d24b37a34"), looks := false }, kinds := [], alts := [], laidByText := true, laidKinds := [.funcsDeep], laidTests := true, laidLooks := .later }
def HilbertScalesCardSaid : Prop := Claim7.holds Tryd.pinned (.plain (OpenSpec.ofChange hilbertScalesSpec)) hilbertScalesCard

/-- THE TIED CARD OF 'fenlandlaw12.HilbertOrders'. -/
def hilbertOrdersCard : Claim7 := { stood := { row := hilbertOrdersRow, standIns := [], harness := (true, "2e44d7ea2897f82dbc1cd4085afce5426b6413760111c03f061e029d24b37a34"), looks := false }, kinds := [], alts := [], laidByText := true, laidKinds := [.funcsDeep], laidTests := true, laidLooks := .later }
def HilbertOrdersCardSaid : Prop := Claim7.holds Tryd.pinned (.plain (OpenSpec.ofChange hilbertOrdersSpec)) hilbertOrdersCard

/-- THE TIED CARD OF 'fenlandlaw12.HilbertCovers'. -/
def hilbertCoversCard : Claim7 := { stood := { row := hilbertCoversRow, standIns := [], harness := (true, "2e44d7ea2897f82dbc1cd4085afce5426b6413760111c03f061e029d24b37a34"), looks := false }, kinds := [], alts := [], laidByText := true, laidKinds := [.funcsDeep], laidTests := true, laidLooks := .later }
def HilbertCoversCardSaid : Prop := Claim7.holds Tryd.pinned (.plain (OpenSpec.ofChange hilbertCoversSpec)) hilbertCoversCard

/-- THE SECOND FORM's CARD OF 'fenlandlaw12.HilbertMatchesReference'. -/
def hilbertMatchesReferenceUptoCard : Claim7 := { stood := { row := hilbertMatchesReferenceUptoRow, standIns := [], harness := (true, "2e44d7ea2897f82dbc1cd4085afce5426b6413760111c03f061e029d24b37a34"), looks := false }, kinds := [], alts := [], laidByText := true, laidKinds := [.funcsDeep], laidTests := true, laidLooks := .later }
def HilbertMatchesReferenceUptoCardSaid : Prop := Claim7.holds Tryd.pinned (.plain (OpenSpec.upto hilbertMatchesReferenceSpec)) hilbertMatchesReferenceUptoCard

/-- THE SECOND FORM's CARD OF 'fenlandlaw12.HilbertIsBijective'. -/
def hilbertIsBijectiveUptoCard : Claim7 := { stood := { row := hilbertIsBijectiveUptoRow, standIns := [], harness := (true, "2e44d7ea2897f82dbc1cd4085afce5426b6413760111c03f061e029d24b37a34"), looks := false }, kinds := [], alts := [], laidByText := true, laidKinds := [.funcsDeep], laidTests := true, laidLooks := .later }
def HilbertIsBijectiveUptoCardSaid : Prop := Claim7.holds Tryd.pinned (.plain (OpenSpec.upto hilbertIsBijectiveSpec)) hilbertIsBijectiveUptoCard

/-- THE SECOND FORM's CARD OF 'fenlandlaw12.HilbertIsContinuous'. -/
def hilbertIsContinuousUptoCard : Claim7 := { stood := { row := hilbertIsContinuousUptoRow, standIns := [], harness := (true, "2e44d7ea2897f82dbc1cd4085afce5426b6413760111c03f061e029d24b37a34"), looks := false }, kinds := [], alts := [], laidByText := true, laidKinds := [.funcsDeep], laidTests := true, laidLooks := .later }
def HilbertIsContinuousUptoCardSaid : Prop := Claim7.holds Tryd.pinned (.plain (OpenSpec.upto hilbertIsContinuousSpec)) hilbertIsContinuousUptoCard

/-- THE SECOND FORM's CARD OF 'fenlandlaw12.HilbertKeepsSquares'. -/
def hilbertKeepsSquaresUptoCard : Claim7 := { stood := { row := hilbertKeepsSquaresUptoRow, standIns := [], harness := (true, "2e44d7ea2897f82dbc1cd4085afce5426b6413760111c03f061e029d24b37a34"), looks := false }, kinds := [], alts := [], laidByText := true, laidKinds := [.funcsDeep], laidTests := true, laidLooks := .later }
def HilbertKeepsSquaresUptoCardSaid : Prop := Claim7.holds Tryd.pinned (.plain (OpenSpec.upto hilbertKeepsSquaresSpec)) hilbertKeepsSquaresUptoCard

/-- THE SECOND FORM's CARD OF 'fenlandlaw12.HilbertScales'. -/
def hilbertScalesUptoCard : Claim7 := { stood := { row := hilbertScalesUptoRow, standIns := [], harness := (true, "2e44d7ea2897f82dbc1cd4085afce5426b6413760111c03f061e029d24b37a34"), looks := false }, kinds := [], alts := [], laidByText := true, laidKinds := [.funcsDeep], laidTests := true, laidLooks := .later }
def HilbertScalesUptoCardSaid : Prop := Claim7.holds Tryd.pinned (.plain (OpenSpec.upto hilbertScalesSpec)) hilbertScalesUptoCard

/-- THE SECOND FORM's CARD OF 'fenlandlaw12.HilbertOrders'. -/
def hilbertOrdersUptoCard : Claim7 := { stood := { row := hilbertOrdersUptoRow, standIns := [], harness := (true, "2e44d7ea2897f82dbc1cd4085afce5426b6413760111c03f061e029d24b37a34"), looks := false }, kinds := [], alts := [], laidByText := true, laidKinds := [.funcsDeep], laidTests := true, laidLooks := .later }
def HilbertOrdersUptoCardSaid : Prop := Claim7.holds Tryd.pinned (.plain (OpenSpec.upto hilbertOrdersSpec)) hilbertOrdersUptoCard

/-- THE SECOND FORM's CARD OF 'fenlandlaw12.HilbertCovers'. -/
def hilbertCoversUptoCard : Claim7 := { stood := { row := hilbertCoversUptoRow, standIns := [], harness := (true, "2e44d7ea2897f82dbc1cd4085afce5426b6413760111c03f061e029d24b37a34"), looks := false }, kinds := [], alts := [], laidByText := true, laidKinds := [.funcsDeep], laidTests := true, laidLooks := .later }
def HilbertCoversUptoCardSaid : Prop := Claim7.holds Tryd.pinned (.plain (OpenSpec.upto hilbertCoversSpec)) hilbertCoversUptoCard
end Rows
end Go.Proofs.YtnpkbjekodjcjaaDoor
