/-
  DERIVED. GIVEN WITH THE SEED: THE CARDS: each row of YtleagoeimkcekaaDoorRows.lean that lists a variable, with what it lists TIED to the program's text (the seventh form; the later family's looks); each row that meets fmt, with fmt's text TOLD by the authors' own Lean function (tested against real Go, not proved from fmt's source: count such statements apart). THE CARD IS WHAT COUNTS. Prove the row's statement (the work); the ties are given (YtleagoeimkcekaaDoorTie.lean); close each card by the builder's one call (the guide's Derived/Test/ToyasCard.lean, 'card_holds'). Laid BY PROGRAM, IN A SANDBOX (cutbox-door.mjs). By AI agents, Wed Nov 11 2026. No macro, syntax, notation, axiom, sorry.
-/
import Derived.Test.YtleagoeimkcekaaDoorRows
import GoSem.ClaimSeven
namespace Go.Proofs.YtleagoeimkcekaaDoor
namespace Rows

/-- THE TIED CARD OF 'downpourlaw08.NeighboursFew'. -/
def neighboursFewCard : Claim7 := { stood := { row := neighboursFewRow, standIns := [], harness := (true, "455cee183e349aad79324c72cd2e744dd386c2eec51fc6e817c944f5d4339eb4"), looks := false }, kinds := [], alts := [], laidByText := true, laidKinds := [.data], laidTests := true, laidLooks := .later }
def NeighboursFewCardSaid : Prop := Claim7.holds Tryd.pinned (.plain (OpenSpec.ofChange neighboursFewSpec)) neighboursFewCard

/-- THE TIED CARD OF 'downpourlaw16.InactiveMakes'. -/
def inactiveMakesCard : Claim7 := { stood := { row := inactiveMakesRow, standIns := [], harness := (true, "455cee183e349aad79324c72cd2e744dd386c2eec51fc6e817c944f5d4339eb4"), looks := false }, kinds := [], alts := [], laidByText := true, laidKinds := [.data], laidTests := true, laidLooks := .later }
def InactiveMakesCardSaid : Prop := Claim7.holds Tryd.pinned (.plain (OpenSpec.ofChange inactiveMakesSpec)) inactiveMakesCard

/-- THE TIED CARD OF 'downpourlaw16.InactiveRight'. -/
def inactiveRightCard : Claim7 := { stood := { row := inactiveRightRow, standIns := [], harness := (true, "455cee183e349aad79324c72cd2e744dd386c2eec51fc6e817c944f5d4339eb4"), looks := false }, kinds := [], alts := [], laidByText := true, laidKinds := [.data], laidTests := true, laidLooks := .later }
def InactiveRightCardSaid : Prop := Claim7.holds Tryd.pinned (.plain (OpenSpec.ofChange inactiveRightSpec)) inactiveRightCard

/-- THE TIED CARD OF 'downpourlaw16.InactiveCovers'. -/
def inactiveCoversCard : Claim7 := { stood := { row := inactiveCoversRow, standIns := [], harness := (true, "455cee183e349aad79324c72cd2e744dd386c2eec51fc6e817c944f5d4339eb4"), looks := false }, kinds := [], alts := [], laidByText := true, laidKinds := [.data], laidTests := true, laidLooks := .later }
def InactiveCoversCardSaid : Prop := Claim7.holds Tryd.pinned (.plain (OpenSpec.ofChange inactiveCoversSpec)) inactiveCoversCard

/-- THE TIED CARD OF 'downpourlaw05.BacksubSolves'. -/
def backsubSolvesCard : Claim7 := { stood := { row := backsubSolvesRow, standIns := [], harness := (true, "455cee183e349aad79324c72cd2e744dd386c2eec51fc6e817c944f5d4339eb4"), looks := false }, kinds := [], alts := [], laidByText := true, laidKinds := [.data, .pinned], laidTests := true, laidLooks := .later }
def BacksubSolvesCardSaid : Prop := Claim7.holds Tryd.pinned (.plain (OpenSpec.ofChange backsubSolvesSpec)) backsubSolvesCard

/-- THE TIED CARD OF 'downpourlaw05.BacksubTold'. -/
def backsubToldCard : Claim7 := { stood := { row := backsubToldRow, standIns := [], harness := (true, "455cee183e349aad79324c72cd2e744dd386c2eec51fc6e817c944f5d4339eb4"), looks := false }, kinds := [], alts := [], laidByText := true, laidKinds := [.data, .data, .pinned], laidTests := true, laidLooks := .later }
def BacksubToldCardSaid : Prop := Claim7.holds Tryd.pinned (.plain (OpenSpec.ofChange backsubToldSpec)) backsubToldCard

/-- THE TIED CARD OF 'downpourlaw05.BacksubWrong'. -/
def backsubWrongCard : Claim7 := { stood := { row := backsubWrongRow, standIns := [], harness := (true, "455cee183e349aad79324c72cd2e744dd386c2eec51fc6e817c944f5d4339eb4"), looks := false }, kinds := [], alts := [], laidByText := true, laidKinds := [.data, .data, .pinned], laidTests := true, laidLooks := .later }
def BacksubWrongCardSaid : Prop := Claim7.holds Tryd.pinned (.plain (OpenSpec.ofChange backsubWrongSpec)) backsubWrongCard

/-- THE TIED CARD OF 'downpourlaw15.PeelTells'. -/
def peelTellsCard : Claim7 := { stood := { row := peelTellsRow, standIns := [], harness := (true, "455cee183e349aad79324c72cd2e744dd386c2eec51fc6e817c944f5d4339eb4"), looks := false }, kinds := [], alts := [], laidByText := true, laidKinds := [.data, .data, .pinned], laidTests := true, laidLooks := .later }
def PeelTellsCardSaid : Prop := Claim7.holds Tryd.pinned (.plain (OpenSpec.ofChange peelTellsSpec)) peelTellsCard

/-- THE TIED CARD OF 'downpourlaw15.PeelOrder'. -/
def peelOrderCard : Claim7 := { stood := { row := peelOrderRow, standIns := [], harness := (true, "455cee183e349aad79324c72cd2e744dd386c2eec51fc6e817c944f5d4339eb4"), looks := false }, kinds := [], alts := [], laidByText := true, laidKinds := [.data, .data, .pinned], laidTests := true, laidLooks := .later }
def PeelOrderCardSaid : Prop := Claim7.holds Tryd.pinned (.plain (OpenSpec.ofChange peelOrderSpec)) peelOrderCard

/-- THE TIED CARD OF 'downpourlaw02.BlockSums'. -/
def blockSumsCard : Claim7 := { stood := { row := blockSumsRow, standIns := [], harness := (true, "455cee183e349aad79324c72cd2e744dd386c2eec51fc6e817c944f5d4339eb4"), looks := false }, kinds := [], alts := [], laidByText := true, laidKinds := [.data, .pinned], laidTests := true, laidLooks := .later }
def BlockSumsCardSaid : Prop := Claim7.holds Tryd.pinned (.plain (OpenSpec.ofChange blockSumsSpec)) blockSumsCard

/-- THE TIED CARD OF 'downpourlaw02.BlockZero'. -/
def blockZeroCard : Claim7 := { stood := { row := blockZeroRow, standIns := [], harness := (true, "455cee183e349aad79324c72cd2e744dd386c2eec51fc6e817c944f5d4339eb4"), looks := false }, kinds := [], alts := [], laidByText := true, laidKinds := [.data, .pinned], laidTests := true, laidLooks := .later }
def BlockZeroCardSaid : Prop := Claim7.holds Tryd.pinned (.plain (OpenSpec.ofChange blockZeroSpec)) blockZeroCard

/-- THE SECOND FORM's CARD OF 'downpourlaw08.NeighboursFew'. -/
def neighboursFewUptoCard : Claim7 := { stood := { row := neighboursFewUptoRow, standIns := [], harness := (true, "455cee183e349aad79324c72cd2e744dd386c2eec51fc6e817c944f5d4339eb4"), looks := false }, kinds := [], alts := [], laidByText := true, laidKinds := [.data], laidTests := true, laidLooks := .later }
def NeighboursFewUptoCardSaid : Prop := Claim7.holds Tryd.pinned (.plain (OpenSpec.upto neighboursFewSpec)) neighboursFewUptoCard

/-- THE SECOND FORM's CARD OF 'downpourlaw16.InactiveMakes'. -/
def inactiveMakesUptoCard : Claim7 := { stood := { row := inactiveMakesUptoRow, standIns := [], harness := (true, "455cee183e349aad79324c72cd2e744dd386c2eec51fc6e817c944f5d4339eb4"), looks := false }, kinds := [], alts := [], laidByText := true, laidKinds := [.data], laidTests := true, laidLooks := .later }
def InactiveMakesUptoCardSaid : Prop := Claim7.holds Tryd.pinned (.plain (OpenSpec.upto inactiveMakesSpec)) inactiveMakesUptoCard

/-- THE SECOND FORM's CARD OF 'downpourlaw16.InactiveRight'. -/
def inactiveRightUptoCard : Claim7 := { stood := { row := inactiveRightUptoRow, standIns := [], harness := (true, "455cee183e349aad79324c72cd2e744dd386c2eec51fc6e817c944f5d4339eb4"), looks := false }, kinds := [], alts := [], laidByText := true, laidKinds := [.data], laidTests := true, laidLooks := .later }
def InactiveRightUptoCardSaid : Prop := Claim7.holds Tryd.pinned (.plain (OpenSpec.upto inactiveRightSpec)) inactiveRightUptoCard

/-- THE SECOND FORM's CARD OF 'downpourlaw16.InactiveCovers'. -/
def inactiveCoversUptoCard : Claim7 := { stood := { row := inactiveCoversUptoRow, standIns := [], harness := (true, "455cee183e349aad79324c72cd2e744dd386c2eec51fc6e817c944f5d4339eb4"), looks := false }, kinds := [], alts := [], laidByText := true, laidKinds := [.data], laidTests := true, laidLooks := .later }
def InactiveCoversUptoCardSaid : Prop := Claim7.holds Tryd.pinned (.plain (OpenSpec.upto inactiveCoversSpec)) inactiveCoversUptoCard

/-- THE SECOND FORM's CARD OF 'downpourlaw05.BacksubSolves'. -/
def backsubSolvesUptoCard : Claim7 := { stood := { row := backsubSolvesUptoRow, standIns := [], harness := (true, "455cee183e349aad79324c72cd2e744dd386c2eec51fc6e817c944f5d4339eb4"), looks := false }, kinds := [], alts := [], laidByText := true, laidKinds := [.data, .pinned], laidTests := true, laidLooks := .later }
def BacksubSolvesUptoCardSaid : Prop := Claim7.holds Tryd.pinned (.plain (OpenSpec.upto backsubSolvesSpec)) backsubSolvesUptoCard

/-- THE SECOND FORM's CARD OF 'downpourlaw05.BacksubTold'. -/
def backsubToldUptoCard : Claim7 := { stood := { row := backsubToldUptoRow, standIns := [], harness := (true, "455cee183e349aad79324c72cd2e744dd386c2eec51fc6e817c944f5d4339eb4"), looks := false }, kinds := [], alts := [], laidByText := true, laidKinds := [.data, .data, .pinned], laidTests := true, laidLooks := .later }
def BacksubToldUptoCardSaid : Prop := Claim7.holds Tryd.pinned (.plain (OpenSpec.upto backsubToldSpec)) backsubToldUptoCard

/-- THE SECOND FORM's CARD OF 'downpourlaw05.BacksubWrong'. -/
def backsubWrongUptoCard : Claim7 := { stood := { row := backsubWrongUptoRow, standIns := [], harness := (true, "455cee183e349aad79324c72cd2e744dd386c2eec51fc6e817c944f5d4339eb4"), looks := false }, kinds := [], alts := [], laidByText := true, laidKinds := [.data, .data, .pinned], laidTests := true, laidLooks := .later }
def BacksubWrongUptoCardSaid : Prop := Claim7.holds Tryd.pinned (.plain (OpenSpec.upto backsubWrongSpec)) backsubWrongUptoCard

/-- THE SECOND FORM's CARD OF 'downpourlaw15.PeelTells'. -/
def peelTellsUptoCard : Claim7 := { stood := { row := peelTellsUptoRow, standIns := [], harness := (true, "455cee183e349aad79324c72cd2e744dd386c2eec51fc6e817c944f5d4339eb4"), looks := false }, kinds := [], alts := [], laidByText := true, laidKinds := [.data, .data, .pinned], laidTests := true, laidLooks := .later }
def PeelTellsUptoCardSaid : Prop := Claim7.holds Tryd.pinned (.plain (OpenSpec.upto peelTellsSpec)) peelTellsUptoCard

/-- THE SECOND FORM's CARD OF 'downpourlaw15.PeelOrder'. -/
def peelOrderUptoCard : Claim7 := { stood := { row := peelOrderUptoRow, standIns := [], harness := (true, "455cee183e349aad79324c72cd2e744dd386c2eec51fc6e817c944f5d4339eb4"), looks := false }, kinds := [], alts := [], laidByText := true, laidKinds := [.data, .data, .pinned], laidTests := true, laidLooks := .later }
def PeelOrderUptoCardSaid : Prop := Claim7.holds Tryd.pinned (.plain (OpenSpec.upto peelOrderSpec)) peelOrderUptoCard

/-- THE SECOND FORM's CARD OF 'downpourlaw02.BlockSums'. -/
def blockSumsUptoCard : Claim7 := { stood := { row := blockSumsUptoRow, standIns := [], harness := (true, "455cee183e349aad79324c72cd2e744dd386c2eec51fc6e817c944f5d4339eb4"), looks := false }, kinds := [], alts := [], laidByText := true, laidKinds := [.data, .pinned], laidTests := true, laidLooks := .later }
def BlockSumsUptoCardSaid : Prop := Claim7.holds Tryd.pinned (.plain (OpenSpec.upto blockSumsSpec)) blockSumsUptoCard

/-- THE SECOND FORM's CARD OF 'downpourlaw02.BlockZero'. -/
def blockZeroUptoCard : Claim7 := { stood := { row := blockZeroUptoRow, standIns := [], harness := (true, "455cee183e349aad79324c72cd2e744dd386c2eec51fc6e817c944f5d4339eb4"), looks := false }, kinds := [], alts := [], laidByText := true, laidKinds := [.data, .pinned], laidTests := true, laidLooks := .later }
def BlockZeroUptoCardSaid : Prop := Claim7.holds Tryd.pinned (.plain (OpenSpec.upto blockZeroSpec)) blockZeroUptoCard
end Rows
end Go.Proofs.YtleagoeimkcekaaDoor
