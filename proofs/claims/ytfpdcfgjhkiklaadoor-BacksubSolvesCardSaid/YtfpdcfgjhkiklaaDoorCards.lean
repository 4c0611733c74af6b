/-
  DERIVED. GIVEN WITH THE SEED: THE CARDS: each row of YtfpdcfgjhkiklaaDoorRows.lean that lists a variable, with what it lists TIED to the program's text (the seventh form; the later family's looks); each row that meets fmt, with fmt's text TOLD by the authors' own Lean function (tested against real Go, not proved from fmt's source: count such statements apart). THE CARD IS WHAT COUNTS. Prove the row's statement (the work); the ties are given (YtfpdcfgjhkiklaaDoorTie.lean); close each card by the builder's one call (the guide's Derived/Test/ToyasCard.lean, 'card_holds'). Laid BY PROGRAM, IN A SANDBOX (cutbox-door.mjs). By AI agents, Wed Nov 11 2026. No macro, syntax, notation, axiom, sorry.
-/
import Derived.Test.YtfpdcfgjhkiklaaDoorRows
import GoSem.ClaimSeven
namespace Go.Proofs.YtfpdcfgjhkiklaaDoor
namespace Rows

/-- THE TIED CARD OF 'downpourlaw16.InactiveMakes'. -/
def inactiveMakesCard : Claim7 := { stood := { row := inactiveMakesRow, standIns := [], harness := (true, "9aeea4a5b5a71d88897ac8d4ee42dbebf3d152c73e60cb2a290a770d77ad251f"), looks := false }, kinds := [], alts := [], laidByText := true, laidKinds := [.data], laidTests := true, laidLooks := .later }
def InactiveMakesCardSaid : Prop := Claim7.holds Tryd.pinned (.plain (OpenSpec.ofChange inactiveMakesSpec)) inactiveMakesCard

/-- THE TIED CARD OF 'downpourlaw16.InactiveRight'. -/
def inactiveRightCard : Claim7 := { stood := { row := inactiveRightRow, standIns := [], harness := (true, "9aeea4a5b5a71d88897ac8d4ee42dbebf3d152c73e60cb2a290a770d77ad251f"), looks := false }, kinds := [], alts := [], laidByText := true, laidKinds := [.data], laidTests := true, laidLooks := .later }
def InactiveRightCardSaid : Prop := Claim7.holds Tryd.pinned (.plain (OpenSpec.ofChange inactiveRightSpec)) inactiveRightCard

/-- THE TIED CARD OF 'downpourlaw16.InactiveCovers'. -/
def inactiveCoversCard : Claim7 := { stood := { row := inactiveCoversRow, standIns := [], harness := (true, "9aeea4a5b5a71d88897ac8d4ee42dbebf3d152c73e60cb2a290a770d77ad251f"), looks := false }, kinds := [], alts := [], laidByText := true, laidKinds := [.data], laidTests := true, laidLooks := .later }
def InactiveCoversCardSaid : Prop := Claim7.holds Tryd.pinned (.plain (OpenSpec.ofChange inactiveCoversSpec)) inactiveCoversCard

/-- THE TIED CARD OF 'downpourlaw05.BacksubSolves'. -/
def backsubSolvesCard : Claim7 := { stood := { row := backsubSolvesRow, standIns := [], harness := (true, "9aeea4a5b5a71d88897ac8d4ee42dbebf3d152c73e60cb2a290a770d77ad251f"), looks := false }, kinds := [], alts := [], laidByText := true, laidKinds := [.data, .pinned], laidTests := true, laidLooks := .later }
def BacksubSolvesCardSaid : Prop := Claim7.holds Tryd.pinned (.plain (OpenSpec.ofChange backsubSolvesSpec)) backsubSolvesCard

/-- THE TIED CARD OF 'downpourlaw05.BacksubTold'. -/
def backsubToldCard : Claim7 := { stood := { row := backsubToldRow, standIns := [], harness := (true, "9aeea4a5b5a71d88897ac8d4ee42dbebf3d152c73e60cb2a290a770d77ad251f"), looks := false }, kinds := [], alts := [], laidByText := true, laidKinds := [.data, .data, .pinned], laidTests := true, laidLooks := .later }
def BacksubToldCardSaid : Prop := Claim7.holds Tryd.pinned (.plain (OpenSpec.ofChange backsubToldSpec)) backsubToldCard

/-- THE TIED CARD OF 'downpourlaw05.BacksubWrong'. -/
def backsubWrongCard : Claim7 := { stood := { row := backsubWrongRow, standIns := [], harness := (true, "9aeea4a5b5a71d88897ac8d4ee42dbebf3d152c73e60cb2a290a770d77ad251f"), looks := false }, kinds := [], alts := [], laidByText := true, laidKinds := [.data, .data, .pinned], laidTests := true, laidLooks := .later }
def BacksubWrongCardSaid : Prop := Claim7.holds Tryd.pinned (.plain (OpenSpec.ofChange backsubWrongSpec)) backsubWrongCard

/-- THE TIED CARD OF 'downpourlaw15.PeelOrder'. -/
def peelOrderCard : Claim7 := { stood := { row := peelOrderRow, standIns := [], harness := (true, "9aeea4a5b5a71d88897ac8d4ee42dbebf3d152c73e60cb2a290a770d77ad251f"), looks := false }, kinds := [], alts := [], laidByText := true, laidKinds := [.data, .data, .pinned], laidTests := true, laidLooks := .later }
def PeelOrderCardSaid : Prop := Claim7.holds Tryd.pinned (.plain (OpenSpec.ofChange peelOrderSpec)) peelOrderCard

/-- THE TIED CARD OF 'downpourlaw09.EncodeMakes'. -/
def encodeMakesCard : Claim7 := { stood := { row := encodeMakesRow, standIns := [], harness := (true, "9aeea4a5b5a71d88897ac8d4ee42dbebf3d152c73e60cb2a290a770d77ad251f"), looks := false }, kinds := [], alts := [], laidByText := true, laidKinds := [.data], laidTests := true, laidLooks := .later }
def EncodeMakesCardSaid : Prop := Claim7.holds Tryd.pinned (.plain (OpenSpec.ofChange encodeMakesSpec)) encodeMakesCard

/-- THE TIED CARD OF 'downpourlaw09.EncodeCuts'. -/
def encodeCutsCard : Claim7 := { stood := { row := encodeCutsRow, standIns := [], harness := (true, "9aeea4a5b5a71d88897ac8d4ee42dbebf3d152c73e60cb2a290a770d77ad251f"), looks := false }, kinds := [], alts := [], laidByText := true, laidKinds := [.data], laidTests := true, laidLooks := .later }
def EncodeCutsCardSaid : Prop := Claim7.holds Tryd.pinned (.plain (OpenSpec.ofChange encodeCutsSpec)) encodeCutsCard

/-- THE SECOND FORM's CARD OF 'downpourlaw16.InactiveMakes'. -/
def inactiveMakesUptoCard : Claim7 := { stood := { row := inactiveMakesUptoRow, standIns := [], harness := (true, "9aeea4a5b5a71d88897ac8d4ee42dbebf3d152c73e60cb2a290a770d77ad251f"), looks := false }, kinds := [], alts := [], laidByText := true, laidKinds := [.data], laidTests := true, laidLooks := .later }
def InactiveMakesUptoCardSaid : Prop := Claim7.holds Tryd.pinned (.plain (OpenSpec.upto inactiveMakesSpec)) inactiveMakesUptoCard

/-- THE SECOND FORM's CARD OF 'downpourlaw16.InactiveRight'. -/
def inactiveRightUptoCard : Claim7 := { stood := { row := inactiveRightUptoRow, standIns := [], harness := (true, "9aeea4a5b5a71d88897ac8d4ee42dbebf3d152c73e60cb2a290a770d77ad251f"), looks := false }, kinds := [], alts := [], laidByText := true, laidKinds := [.data], laidTests := true, laidLooks := .later }
def InactiveRightUptoCardSaid : Prop := Claim7.holds Tryd.pinned (.plain (OpenSpec.upto inactiveRightSpec)) inactiveRightUptoCard

/-- THE SECOND FORM's CARD OF 'downpourlaw16.InactiveCovers'. -/
def inactiveCoversUptoCard : Claim7 := { stood := { row := inactiveCoversUptoRow, standIns := [], harness := (true, "9aeea4a5b5a71d88897ac8d4ee42dbebf3d152c73e60cb2a290a770d77ad251f"), looks := false }, kinds := [], alts := [], laidByText := true, laidKinds := [.data], laidTests := true, laidLooks := .later }
def InactiveCoversUptoCardSaid : Prop := Claim7.holds Tryd.pinned (.plain (OpenSpec.upto inactiveCoversSpec)) inactiveCoversUptoCard

/-- THE SECOND FORM's CARD OF 'downpourlaw05.BacksubSolves'. -/
def backsubSolvesUptoCard : Claim7 := { stood := { row := backsubSolvesUptoRow, standIns := [], harness := (true, "9aeea4a5b5a71d88897ac8d4ee42dbebf3d152c73e60cb2a290a770d77ad251f"), looks := false }, kinds := [], alts := [], laidByText := true, laidKinds := [.data, .pinned], laidTests := true, laidLooks := .later }
def BacksubSolvesUptoCardSaid : Prop := Claim7.holds Tryd.pinned (.plain (OpenSpec.upto backsubSolvesSpec)) backsubSolvesUptoCard

/-- THE SECOND FORM's CARD OF 'downpourlaw05.BacksubTold'. -/
def backsubToldUptoCard : Claim7 := { stood := { row := backsubToldUptoRow, standIns := [], harness := (true, "9aeea4a5b5a71d88897ac8d4ee42dbebf3d152c73e60cb2a290a770d77ad251f"), looks := false }, kinds := [], alts := [], laidByText := true, laidKinds := [.data, .data, .pinned], laidTests := true, laidLooks := .later }
def BacksubToldUptoCardSaid : Prop := Claim7.holds Tryd.pinned (.plain (OpenSpec.upto backsubToldSpec)) backsubToldUptoCard

/-- THE SECOND FORM's CARD OF 'downpourlaw05.BacksubWrong'. -/
def backsubWrongUptoCard : Claim7 := { stood := { row := backsubWrongUptoRow, standIns := [], harness := (true, "9aeea4a5b5a71d88897ac8d4ee42dbebf3d152c73e60cb2a290a770d77ad251f"), looks := false }, kinds := [], alts := [], laidByText := true, laidKinds := [.data, .data, .pinned], laidTests := true, laidLooks := .later }
def BacksubWrongUptoCardSaid : Prop := Claim7.holds Tryd.pinned (.plain (OpenSpec.upto backsubWrongSpec)) backsubWrongUptoCard

/-- THE SECOND FORM's CARD OF 'downpourlaw15.PeelOrder'. -/
def peelOrderUptoCard : Claim7 := { stood := { row := peelOrderUptoRow, standIns := [], harness := (true, "9aeea4a5b5a71d88897ac8d4ee42dbebf3d152c73e60cb2a290a770d77ad251f"), looks := false }, kinds := [], alts := [], laidByText := true, laidKinds := [.data, .data, .pinned], laidTests := true, laidLooks := .later }
def PeelOrderUptoCardSaid : Prop := Claim7.holds Tryd.pinned (.plain (OpenSpec.upto peelOrderSpec)) peelOrderUptoCard

/-- THE SECOND FORM's CARD OF 'downpourlaw09.EncodeMakes'. -/
def encodeMakesUptoCard : Claim7 := { stood := { row := encodeMakesUptoRow, standIns := [], harness := (true, "9aeea4a5b5a71d88897ac8d4ee42dbebf3d152c73e60cb2a290a770d77ad251f"), looks := false }, kinds := [], alts := [], laidByText := true, laidKinds := [.data], laidTests := true, laidLooks := .later }
def EncodeMakesUptoCardSaid : Prop := Claim7.holds Tryd.pinned (.plain (OpenSpec.upto encodeMakesSpec)) encodeMakesUptoCard

/-- THE SECOND FORM's CARD OF 'downpourlaw09.EncodeCuts'. -/
def encodeCutsUptoCard : Claim7 := { stood := { row := encodeCutsUptoRow, standIns := [], harness := (true, "9aeea4a5b5a71d88897ac8d4ee42dbebf3d152c73e60cb2a290a770d77ad251f"), looks := false }, kinds := [], alts := [], laidByText := true, laidKinds := [.data], laidTests := true, laidLooks := .later }
def EncodeCutsUptoCardSaid : Prop := Claim7.holds Tryd.pinned (.plain (OpenSpec.upto encodeCutsSpec)) encodeCutsUptoCard
end Rows
end Go.Proofs.YtfpdcfgjhkiklaaDoor
