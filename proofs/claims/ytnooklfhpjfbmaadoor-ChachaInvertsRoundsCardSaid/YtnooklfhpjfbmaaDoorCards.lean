/-
  DERIVED. GIVEN WITH THE SEED: THE CARDS: each row of YtnooklfhpjfbmaaDoorRows.lean that lists a variable, with what it lists TIED to the program's text (the seventh form; the later family's looks); each row that meets fmt, with fmt's text TOLD by the authors' own Lean function (tested against real Go, not proved from fmt's source: count such statements apart). THE CARD IS WHAT COUNTS. Prove the row's statement (the work); the ties are given (YtnooklfhpjfbmaaDoorTie.lean); close each card by the builder's one call (the guide's Derived/Test/ToyasCard.lean, 'card_holds'). Laid BY PROGRAM, IN A SANDBOX (cutbox-door.mjs). By AI agents, Wed Nov 11 2026. No macro, syntax, notation, axiom, sorry.
-/
import Derived.Test.YtnooklfhpjfbmaaDoorRows
import GoSem.ClaimSeven
namespace Go.Proofs.YtnooklfhpjfbmaaDoor
namespace Rows

/-- THE TIED CARD OF 'fenlandlaw03.ChachaIsInvolution'. -/
def chachaIsInvolutionCard : Claim7 := { stood := { row := chachaIsInvolutionRow, standIns := [], harness := (true, "182382ea23ef3a54b894e5553c3f2524b1dbfec8d1060fcff0be6a18d1298b07"), looks := false }, kinds := [], alts := [], laidByText := true, laidKinds := [.data], laidTests := true, laidLooks := .later }
def ChachaIsInvolutionCardSaid : Prop := Claim7.holds Tryd.pinned (.plain (OpenSpec.ofChange chachaIsInvolutionSpec)) chachaIsInvolutionCard

/-- THE TIED CARD OF 'fenlandlaw03.ChachaPrefixes'. -/
def chachaPrefixesCard : Claim7 := { stood := { row := chachaPrefixesRow, standIns := [], harness := (true, "182382ea23ef3a54b894e5553c3f2524b1dbfec8d1060fcff0be6a18d1298b07"), looks := false }, kinds := [], alts := [], laidByText := true, laidKinds := [.data], laidTests := true, laidLooks := .later }
def ChachaPrefixesCardSaid : Prop := Claim7.holds Tryd.pinned (.plain (OpenSpec.ofChange chachaPrefixesSpec)) chachaPrefixesCard

/-- THE TIED CARD OF 'fenlandlaw03.ChachaBlocks'. -/
def chachaBlocksCard : Claim7 := { stood := { row := chachaBlocksRow, standIns := [], harness := (true, "182382ea23ef3a54b894e5553c3f2524b1dbfec8d1060fcff0be6a18d1298b07"), looks := false }, kinds := [], alts := [], laidByText := true, laidKinds := [.data], laidTests := true, laidLooks := .later }
def ChachaBlocksCardSaid : Prop := Claim7.holds Tryd.pinned (.plain (OpenSpec.ofChange chachaBlocksSpec)) chachaBlocksCard

/-- THE TIED CARD OF 'fenlandlaw03.ChachaIsLinear'. -/
def chachaIsLinearCard : Claim7 := { stood := { row := chachaIsLinearRow, standIns := [], harness := (true, "182382ea23ef3a54b894e5553c3f2524b1dbfec8d1060fcff0be6a18d1298b07"), looks := false }, kinds := [], alts := [], laidByText := true, laidKinds := [.data], laidTests := true, laidLooks := .later }
def ChachaIsLinearCardSaid : Prop := Claim7.holds Tryd.pinned (.plain (OpenSpec.ofChange chachaIsLinearSpec)) chachaIsLinearCard

/-- THE TIED CARD OF 'fenlandlaw03.ChachaInvertsRounds'. -/
def chachaInvertsRoundsCard : Claim7 := { stood := { row := chachaInvertsRoundsRow, standIns := [], harness := (true, "182382ea23ef3a54b894e5553c3f2524b1dbfec8d1060fcff0be6a18d1298b07"), looks := false }, kinds := [], alts := [], laidByText := true, laidKinds := [.data], laidTests := true, laidLooks := .later }
def ChachaInvertsRoundsCardSaid : Prop := Claim7.holds Tryd.pinned (.plain (OpenSpec.ofChange chachaInvertsRoundsSpec)) chachaInvertsRoundsCard

/-- THE SECOND FORM's CARD OF 'fenlandlaw03.ChachaIsInvolution'. -/
def chachaIsInvolutionUptoCard : Claim7 := { stood := { row := chachaIsInvolutionUptoRow, standIns := [], harness := (true, "182382ea23ef3a54b894e5553c3f2524b1dbfec8d1060fcff0be6a18d1298b07"), looks := false }, kinds := [], alts := [], laidByText := true, laidKinds := [.data], laidTests := true, laidLooks := .later }
def ChachaIsInvolutionUptoCardSaid : Prop := Claim7.holds Tryd.pinned (.plain (OpenSpec.upto chachaIsInvolutionSpec)) chachaIsInvolutionUptoCard

/-- THE SECOND FORM's CARD OF 'fenlandlaw03.ChachaPrefixes'. -/
def chachaPrefixesUptoCard : Claim7 := { stood := { row := chachaPrefixesUptoRow, standIns := [], harness := (true, "182382ea23ef3a54b894e5553c3f2524b1dbfec8d1060fcff0be6a18d1298b07"), looks := false }, kinds := [], alts := [], laidByText := true, laidKinds := [.data], laidTests := true, laidLooks := .later }
def ChachaPrefixesUptoCardSaid : Prop := Claim7.holds Tryd.pinned (.plain (OpenSpec.upto chachaPrefixesSpec)) chachaPrefixesUptoCard

/-- THE SECOND FORM's CARD OF 'fenlandlaw03.ChachaBlocks'. -/
def chachaBlocksUptoCard : Claim7 := { stood := { row := chachaBlocksUptoRow, standIns := [], harness := (true, "182382ea23ef3a54b894e5553c3f2524b1dbfec8d1060fcff0be6a18d1298b07"), looks := false }, kinds := [], alts := [], laidByText := true, laidKinds := [.data], laidTests := true, laidLooks := .later }
def ChachaBlocksUptoCardSaid : Prop := Claim7.holds Tryd.pinned (.plain (OpenSpec.upto chachaBlocksSpec)) chachaBlocksUptoCard

/-- THE SECOND FORM's CARD OF 'fenlandlaw03.ChachaIsLinear'. -/
def chachaIsLinearUptoCard : Claim7 := { stood := { row := chachaIsLinearUptoRow, standIns := [], harness := (true, "182382ea23ef3a54b894e5553c3f2524b1dbfec8d1060fcff0be6a18d1298b07"), looks := false }, kinds := [], alts := [], laidByText := true, laidKinds := [.data], laidTests := true, laidLooks := .later }
def ChachaIsLinearUptoCardSaid : Prop := Claim7.holds Tryd.pinned (.plain (OpenSpec.upto chachaIsLinearSpec)) chachaIsLinearUptoCard

/-- THE SECOND FORM's CARD OF 'fenlandlaw03.ChachaInvertsRounds'. -/
def chachaInvertsRoundsUptoCard : Claim7 := { stood := { row := chachaInvertsRoundsUptoRow, standIns := [], harness := (true, "182382ea23ef3a54b894e5553c3f2524b1dbfec8d1060fcff0be6a18d1298b07"), looks := false }, kinds := [], alts := [], laidByText := true, laidKinds := [.data], laidTests := true, laidLooks := .later }
def ChachaInvertsRoundsUptoCardSaid : Prop := Claim7.holds Tryd.pinned (.plain (OpenSpec.upto chachaInvertsRoundsSpec)) chachaInvertsRoundsUptoCard
end Rows
end Go.Proofs.YtnooklfhpjfbmaaDoor
