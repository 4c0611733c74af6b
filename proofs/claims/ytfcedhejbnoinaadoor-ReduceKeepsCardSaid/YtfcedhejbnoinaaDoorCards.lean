/-
  DERIVED. GIVEN WITH THE SEED: THE CARDS: each row of YtfcedhejbnoinaaDoorRows.lean that lists a variable, with what it lists TIED to the program's text (the seventh form; the later family's looks); each row that meets fmt, with fmt's text TOLD by the authors' own Lean function (tested against real Go, not proved from fmt's source: count such statements apart). THE CARD IS WHAT COUNTS. Prove the row's statement (the work); the ties are given (YtfcedhejbnoinaaDoorTie.lean); close each card by the builder's one call (the guide's Derived/Test/ToyasCard.lean, 'card_holds'). Laid BY PROGRAM, IN A SANDBOX (cutbox-door.mjs). By AI agents, Wed Nov 11 2026. No macro, syntax, notation, axiom, sorry.
-/
import Derived.Test.YtfcedhejbnoinaaDoorRows
import GoSem.ClaimSeven
namespace Go.Proofs.YtfcedhejbnoinaaDoor
namespace Rows

/-- THE TIED CARD OF 'downpourlaw02.BlockPicks'. -/
def blockPicksCard : Claim7 := { stood := { row := blockPicksRow, standIns := [], harness := (true, "9e7a8f899bd286d8bc98563b4d28fca0e2a8e363fe54ef872c95701a0364b87d"), looks := false }, kinds := [], alts := [], laidByText := true, laidKinds := [.data], laidTests := true, laidLooks := .later }
def BlockPicksCardSaid : Prop := Claim7.holds Tryd.pinned (.plain (OpenSpec.ofChange blockPicksSpec)) blockPicksCard

/-- THE TIED CARD OF 'downpourlaw01.BitrowTells'. -/
def bitrowTellsCard : Claim7 := { stood := { row := bitrowTellsRow, standIns := [], harness := (true, "9e7a8f899bd286d8bc98563b4d28fca0e2a8e363fe54ef872c95701a0364b87d"), looks := false }, kinds := [], alts := [], laidByText := true, laidKinds := [.data], laidTests := true, laidLooks := .later }
def BitrowTellsCardSaid : Prop := Claim7.holds Tryd.pinned (.plain (OpenSpec.ofChange bitrowTellsSpec)) bitrowTellsCard

/-- THE TIED CARD OF 'downpourlaw01.BitrowBack'. -/
def bitrowBackCard : Claim7 := { stood := { row := bitrowBackRow, standIns := [], harness := (true, "9e7a8f899bd286d8bc98563b4d28fca0e2a8e363fe54ef872c95701a0364b87d"), looks := false }, kinds := [], alts := [], laidByText := true, laidKinds := [.data], laidTests := true, laidLooks := .later }
def BitrowBackCardSaid : Prop := Claim7.holds Tryd.pinned (.plain (OpenSpec.ofChange bitrowBackSpec)) bitrowBackCard

/-- THE TIED CARD OF 'downpourlaw02.BlockOrder'. -/
def blockOrderCard : Claim7 := { stood := { row := blockOrderRow, standIns := [], harness := (true, "9e7a8f899bd286d8bc98563b4d28fca0e2a8e363fe54ef872c95701a0364b87d"), looks := false }, kinds := [], alts := [], laidByText := true, laidKinds := [.data], laidTests := true, laidLooks := .later }
def BlockOrderCardSaid : Prop := Claim7.holds Tryd.pinned (.plain (OpenSpec.ofChange blockOrderSpec)) blockOrderCard

/-- THE TIED CARD OF 'downpourlaw03.MatrixMuls'. -/
def matrixMulsCard : Claim7 := { stood := { row := matrixMulsRow, standIns := [], harness := (true, "9e7a8f899bd286d8bc98563b4d28fca0e2a8e363fe54ef872c95701a0364b87d"), looks := false }, kinds := [], alts := [], laidByText := true, laidKinds := [.data], laidTests := true, laidLooks := .later }
def MatrixMulsCardSaid : Prop := Claim7.holds Tryd.pinned (.plain (OpenSpec.ofChange matrixMulsSpec)) matrixMulsCard

/-- THE TIED CARD OF 'downpourlaw03.MatrixRound'. -/
def matrixRoundCard : Claim7 := { stood := { row := matrixRoundRow, standIns := [], harness := (true, "9e7a8f899bd286d8bc98563b4d28fca0e2a8e363fe54ef872c95701a0364b87d"), looks := false }, kinds := [], alts := [], laidByText := true, laidKinds := [.data], laidTests := true, laidLooks := .later }
def MatrixRoundCardSaid : Prop := Claim7.holds Tryd.pinned (.plain (OpenSpec.ofChange matrixRoundSpec)) matrixRoundCard

/-- THE TIED CARD OF 'downpourlaw04.ReduceKeeps'. -/
def reduceKeepsCard : Claim7 := { stood := { row := reduceKeepsRow, standIns := [], harness := (true, "9e7a8f899bd286d8bc98563b4d28fca0e2a8e363fe54ef872c95701a0364b87d"), looks := false }, kinds := [], alts := [], laidByText := true, laidKinds := [.data], laidTests := true, laidLooks := .later }
def ReduceKeepsCardSaid : Prop := Claim7.holds Tryd.pinned (.plain (OpenSpec.ofChange reduceKeepsSpec)) reduceKeepsCard

/-- THE TIED CARD OF 'downpourlaw16.InactiveMakes'. -/
def inactiveMakesCard : Claim7 := { stood := { row := inactiveMakesRow, standIns := [], harness := (true, "9e7a8f899bd286d8bc98563b4d28fca0e2a8e363fe54ef872c95701a0364b87d"), looks := false }, kinds := [], alts := [], laidByText := true, laidKinds := [.data], laidTests := true, laidLooks := .later }
def InactiveMakesCardSaid : Prop := Claim7.holds Tryd.pinned (.plain (OpenSpec.ofChange inactiveMakesSpec)) inactiveMakesCard

/-- THE SECOND FORM's CARD OF 'downpourlaw02.BlockPicks'. -/
def blockPicksUptoCard : Claim7 := { stood := { row := blockPicksUptoRow, standIns := [], harness := (true, "9e7a8f899bd286d8bc98563b4d28fca0e2a8e363fe54ef872c95701a0364b87d"), looks := false }, kinds := [], alts := [], laidByText := true, laidKinds := [.data], laidTests := true, laidLooks := .later }
def BlockPicksUptoCardSaid : Prop := Claim7.holds Tryd.pinned (.plain (OpenSpec.upto blockPicksSpec)) blockPicksUptoCard

/-- THE SECOND FORM's CARD OF 'downpourlaw01.BitrowTells'. -/
def bitrowTellsUptoCard : Claim7 := { stood := { row := bitrowTellsUptoRow, standIns := [], harness := (true, "9e7a8f899bd286d8bc98563b4d28fca0e2a8e363fe54ef872c95701a0364b87d"), looks := false }, kinds := [], alts := [], laidByText := true, laidKinds := [.data], laidTests := true, laidLooks := .later }
def BitrowTellsUptoCardSaid : Prop := Claim7.holds Tryd.pinned (.plain (OpenSpec.upto bitrowTellsSpec)) bitrowTellsUptoCard

/-- THE SECOND FORM's CARD OF 'downpourlaw01.BitrowBack'. -/
def bitrowBackUptoCard : Claim7 := { stood := { row := bitrowBackUptoRow, standIns := [], harness := (true, "9e7a8f899bd286d8bc98563b4d28fca0e2a8e363fe54ef872c95701a0364b87d"), looks := false }, kinds := [], alts := [], laidByText := true, laidKinds := [.data], laidTests := true, laidLooks := .later }
def BitrowBackUptoCardSaid : Prop := Claim7.holds Tryd.pinned (.plain (OpenSpec.upto bitrowBackSpec)) bitrowBackUptoCard

/-- THE SECOND FORM's CARD OF 'downpourlaw02.BlockOrder'. -/
def blockOrderUptoCard : Claim7 := { stood := { row := blockOrderUptoRow, standIns := [], harness := (true, "9e7a8f899bd286d8bc98563b4d28fca0e2a8e363fe54ef872c95701a0364b87d"), looks := false }, kinds := [], alts := [], laidByText := true, laidKinds := [.data], laidTests := true, laidLooks := .later }
def BlockOrderUptoCardSaid : Prop := Claim7.holds Tryd.pinned (.plain (OpenSpec.upto blockOrderSpec)) blockOrderUptoCard

/-- THE SECOND FORM's CARD OF 'downpourlaw03.MatrixMuls'. -/
def matrixMulsUptoCard : Claim7 := { stood := { row := matrixMulsUptoRow, standIns := [], harness := (true, "9e7a8f899bd286d8bc98563b4d28fca0e2a8e363fe54ef872c95701a0364b87d"), looks := false }, kinds := [], alts := [], laidByText := true, laidKinds := [.data], laidTests := true, laidLooks := .later }
def MatrixMulsUptoCardSaid : Prop := Claim7.holds Tryd.pinned (.plain (OpenSpec.upto matrixMulsSpec)) matrixMulsUptoCard

/-- THE SECOND FORM's CARD OF 'downpourlaw03.MatrixRound'. -/
def matrixRoundUptoCard : Claim7 := { stood := { row := matrixRoundUptoRow, standIns := [], harness := (true, "9e7a8f899bd286d8bc98563b4d28fca0e2a8e363fe54ef872c95701a0364b87d"), looks := false }, kinds := [], alts := [], laidByText := true, laidKinds := [.data], laidTests := true, laidLooks := .later }
def MatrixRoundUptoCardSaid : Prop := Claim7.holds Tryd.pinned (.plain (OpenSpec.upto matrixRoundSpec)) matrixRoundUptoCard

/-- THE SECOND FORM's CARD OF 'downpourlaw04.ReduceKeeps'. -/
def reduceKeepsUptoCard : Claim7 := { stood := { row := reduceKeepsUptoRow, standIns := [], harness := (true, "9e7a8f899bd286d8bc98563b4d28fca0e2a8e363fe54ef872c95701a0364b87d"), looks := false }, kinds := [], alts := [], laidByText := true, laidKinds := [.data], laidTests := true, laidLooks := .later }
def ReduceKeepsUptoCardSaid : Prop := Claim7.holds Tryd.pinned (.plain (OpenSpec.upto reduceKeepsSpec)) reduceKeepsUptoCard

/-- THE SECOND FORM's CARD OF 'downpourlaw16.InactiveMakes'. -/
def inactiveMakesUptoCard : Claim7 := { stood := { row := inactiveMakesUptoRow, standIns := [], harness := (true, "9e7a8f899bd286d8bc98563b4d28fca0e2a8e363fe54ef872c95701a0364b87d"), looks := false }, kinds := [], alts := [], laidByText := true, laidKinds := [.data], laidTests := true, laidLooks := .later }
def InactiveMakesUptoCardSaid : Prop := Claim7.holds Tryd.pinned (.plain (OpenSpec.upto inactiveMakesSpec)) inactiveMakesUptoCard
end Rows
end Go.Proofs.YtfcedhejbnoinaaDoor
