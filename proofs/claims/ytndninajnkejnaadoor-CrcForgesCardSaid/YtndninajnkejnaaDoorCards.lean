/-
  DERIVED. GIVEN WITH THE SEED: THE CARDS: each row of YtndninajnkejnaaDoorRows.lean that lists a variable, with what it lists TIED to the program's text (the seventh form; the later family's looks); each row that meets fmt, with fmt's text TOLD by the authors' own Lean function (tested against real Go, not proved from fmt's source: count such statements apart). THE CARD IS WHAT COUNTS. Prove the row's statement (the work); the ties are given (YtndninajnkejnaaDoorTie.lean); close each card by the builder's one call (the guide's Derived/Test/ToyasCard.lean, 'card_holds'). Laid BY PROGRAM, IN A SANDBOX (cutbox-door.mjs). By AI agents, Wed Nov 11 2026. No macro, syntax, notation, axiom, sorry.
-/
import Derived.Test.YtndninajnkejnaaDoorRows
import GoSem.ClaimSeven
namespace Go.Proofs.YtndninajnkejnaaDoor
namespace Rows

/-- THE TIED CARD OF 'ferrylaw01.CrcThere'. -/
def crcThereCard : Claim7 := { stood := { row := crcThereRow, standIns := [], harness := (true, "a84d9985ff9af72f52e41cbc0be53825e67db2f03c17cf6e6fbb35fed50a0812"), looks := true }, kinds := [], alts := [], laidByText := true, laidKinds := [.sentinel, .sentinel], laidTests := true, laidLooks := .later }
def CrcThereCardSaid : Prop := Claim7.holds Tryd.pinned (.plain (OpenSpec.ofChange crcThereSpec)) crcThereCard

/-- THE TIED CARD OF 'ferrylaw01.CrcPieces'. -/
def crcPiecesCard : Claim7 := { stood := { row := crcPiecesRow, standIns := [], harness := (true, "a84d9985ff9af72f52e41cbc0be53825e67db2f03c17cf6e6fbb35fed50a0812"), looks := true }, kinds := [], alts := [], laidByText := true, laidKinds := [.data, .sentinel], laidTests := true, laidLooks := .later }
def CrcPiecesCardSaid : Prop := Claim7.holds Tryd.pinned (.plain (OpenSpec.ofChange crcPiecesSpec)) crcPiecesCard

/-- THE TIED CARD OF 'ferrylaw01.CrcKeeps'. -/
def crcKeepsCard : Claim7 := { stood := { row := crcKeepsRow, standIns := [], harness := (true, "a84d9985ff9af72f52e41cbc0be53825e67db2f03c17cf6e6fbb35fed50a0812"), looks := true }, kinds := [], alts := [], laidByText := true, laidKinds := [.data, .sentinel, .sentinel, .sentinel, .sentinel, .sentinel, .sentinel], laidTests := true, laidLooks := .later }
def CrcKeepsCardSaid : Prop := Claim7.holds Tryd.pinned (.plain (OpenSpec.ofChange crcKeepsSpec)) crcKeepsCard

/-- THE TIED CARD OF 'ferrylaw01.CrcBursts'. -/
def crcBurstsCard : Claim7 := { stood := { row := crcBurstsRow, standIns := [], harness := (true, "a84d9985ff9af72f52e41cbc0be53825e67db2f03c17cf6e6fbb35fed50a0812"), looks := true }, kinds := [], alts := [], laidByText := true, laidKinds := [.handle, .sentinel, .sentinel, .sentinel, .sentinel, .sentinel, .sentinel, .sentinel, .sentinel, .sentinel, .sentinel, .sentinel, .sentinel, .sentinel, .sentinel, .sentinel, .sentinel, .sentinel, .sentinel, .sentinel, .sentinel], laidTests := true, laidLooks := .later }
def CrcBurstsCardSaid : Prop := Claim7.holds Tryd.pinned (.plain (OpenSpec.ofChange crcBurstsSpec)) crcBurstsCard

/-- THE TIED CARD OF 'ferrylaw01.CrcMoves'. -/
def crcMovesCard : Claim7 := { stood := { row := crcMovesRow, standIns := [], harness := (true, "a84d9985ff9af72f52e41cbc0be53825e67db2f03c17cf6e6fbb35fed50a0812"), looks := true }, kinds := [], alts := [], laidByText := true, laidKinds := [.data, .handle, .sentinel, .sentinel, .sentinel, .sentinel, .sentinel, .sentinel, .sentinel, .sentinel, .sentinel, .sentinel, .sentinel, .sentinel, .sentinel, .sentinel, .sentinel, .sentinel, .sentinel, .sentinel, .sentinel, .sentinel], laidTests := true, laidLooks := .later }
def CrcMovesCardSaid : Prop := Claim7.holds Tryd.pinned (.plain (OpenSpec.ofChange crcMovesSpec)) crcMovesCard

/-- THE TIED CARD OF 'ferrylaw01.CrcShifts'. -/
def crcShiftsCard : Claim7 := { stood := { row := crcShiftsRow, standIns := [], harness := (true, "a84d9985ff9af72f52e41cbc0be53825e67db2f03c17cf6e6fbb35fed50a0812"), looks := true }, kinds := [], alts := [], laidByText := true, laidKinds := [.data, .handle, .sentinel, .sentinel, .sentinel, .sentinel, .sentinel, .sentinel, .sentinel, .sentinel, .sentinel, .sentinel, .sentinel, .sentinel, .sentinel, .sentinel, .sentinel, .sentinel, .sentinel, .sentinel, .sentinel, .sentinel], laidTests := true, laidLooks := .later }
def CrcShiftsCardSaid : Prop := Claim7.holds Tryd.pinned (.plain (OpenSpec.ofChange crcShiftsSpec)) crcShiftsCard

/-- THE TIED CARD OF 'ferrylaw01.CrcSeals'. -/
def crcSealsCard : Claim7 := { stood := { row := crcSealsRow, standIns := [], harness := (true, "a84d9985ff9af72f52e41cbc0be53825e67db2f03c17cf6e6fbb35fed50a0812"), looks := true }, kinds := [], alts := [], laidByText := true, laidKinds := [.handle, .sentinel, .sentinel, .sentinel, .sentinel, .sentinel, .sentinel, .sentinel, .sentinel, .sentinel, .sentinel, .sentinel, .sentinel, .sentinel, .sentinel, .sentinel, .sentinel, .sentinel, .sentinel, .sentinel, .sentinel], laidTests := true, laidLooks := .later }
def CrcSealsCardSaid : Prop := Claim7.holds Tryd.pinned (.plain (OpenSpec.ofChange crcSealsSpec)) crcSealsCard

/-- THE TIED CARD OF 'ferrylaw01.CrcTold'. -/
def crcToldCard : Claim7 := { stood := { row := crcToldRow, standIns := [], harness := (true, "a84d9985ff9af72f52e41cbc0be53825e67db2f03c17cf6e6fbb35fed50a0812"), looks := true }, kinds := [], alts := [], laidByText := true, laidKinds := [.handle, .sentinel, .sentinel, .sentinel, .sentinel, .sentinel, .sentinel, .sentinel, .sentinel, .sentinel, .sentinel, .sentinel, .sentinel, .sentinel, .sentinel, .sentinel, .sentinel, .sentinel, .sentinel, .sentinel, .sentinel], laidTests := true, laidLooks := .later }
def CrcToldCardSaid : Prop := Claim7.holds Tryd.pinned (.plain (OpenSpec.ofChange crcToldSpec)) crcToldCard

/-- THE TIED CARD OF 'ferrylaw01.CrcPatches'. -/
def crcPatchesCard : Claim7 := { stood := { row := crcPatchesRow, standIns := [], harness := (true, "a84d9985ff9af72f52e41cbc0be53825e67db2f03c17cf6e6fbb35fed50a0812"), looks := true }, kinds := [], alts := [], laidByText := true, laidKinds := [.handle, .sentinel, .sentinel, .sentinel, .sentinel, .sentinel, .sentinel, .sentinel, .sentinel, .sentinel, .sentinel, .sentinel, .sentinel, .sentinel, .sentinel, .sentinel, .sentinel, .sentinel, .sentinel, .sentinel, .sentinel], laidTests := true, laidLooks := .later }
def CrcPatchesCardSaid : Prop := Claim7.holds Tryd.pinned (.plain (OpenSpec.ofChange crcPatchesSpec)) crcPatchesCard

/-- THE TIED CARD OF 'ferrylaw01.CrcForges'. -/
def crcForgesCard : Claim7 := { stood := { row := crcForgesRow, standIns := [], harness := (true, "a84d9985ff9af72f52e41cbc0be53825e67db2f03c17cf6e6fbb35fed50a0812"), looks := true }, kinds := [], alts := [], laidByText := true, laidKinds := [.handle, .sentinel, .sentinel, .sentinel, .sentinel, .sentinel, .sentinel, .sentinel, .sentinel, .sentinel, .sentinel, .sentinel, .sentinel, .sentinel, .sentinel, .sentinel, .sentinel, .sentinel, .sentinel, .sentinel, .sentinel], laidTests := true, laidLooks := .later }
def CrcForgesCardSaid : Prop := Claim7.holds Tryd.pinned (.plain (OpenSpec.ofChange crcForgesSpec)) crcForgesCard

/-- THE TIED CARD OF 'ferrylaw01.CrcTurns'. -/
def crcTurnsCard : Claim7 := { stood := { row := crcTurnsRow, standIns := [], harness := (true, "a84d9985ff9af72f52e41cbc0be53825e67db2f03c17cf6e6fbb35fed50a0812"), looks := true }, kinds := [], alts := [], laidByText := true, laidKinds := [.data, .handle, .sentinel, .sentinel, .sentinel, .sentinel, .sentinel, .sentinel, .sentinel, .sentinel, .sentinel, .sentinel, .sentinel, .sentinel, .sentinel, .sentinel, .sentinel, .sentinel, .sentinel, .sentinel, .sentinel, .sentinel], laidTests := true, laidLooks := .later }
def CrcTurnsCardSaid : Prop := Claim7.holds Tryd.pinned (.plain (OpenSpec.ofChange crcTurnsSpec)) crcTurnsCard

/-- THE TIED CARD OF 'ferrylaw01.CrcBack'. -/
def crcBackCard : Claim7 := { stood := { row := crcBackRow, standIns := [], harness := (true, "a84d9985ff9af72f52e41cbc0be53825e67db2f03c17cf6e6fbb35fed50a0812"), looks := true }, kinds := [], alts := [], laidByText := true, laidKinds := [.data, .handle, .sentinel, .sentinel, .sentinel, .sentinel, .sentinel, .sentinel, .sentinel, .sentinel, .sentinel, .sentinel, .sentinel, .sentinel, .sentinel, .sentinel, .sentinel, .sentinel, .sentinel, .sentinel, .sentinel, .sentinel], laidTests := true, laidLooks := .later }
def CrcBackCardSaid : Prop := Claim7.holds Tryd.pinned (.plain (OpenSpec.ofChange crcBackSpec)) crcBackCard

/-- THE SECOND FORM's CARD OF 'ferrylaw01.CrcThere'. -/
def crcThereUptoCard : Claim7 := { stood := { row := crcThereUptoRow, standIns := [], harness := (true, "a84d9985ff9af72f52e41cbc0be53825e67db2f03c17cf6e6fbb35fed50a0812"), looks := true }, kinds := [], alts := [], laidByText := true, laidKinds := [.sentinel, .sentinel], laidTests := true, laidLooks := .later }
def CrcThereUptoCardSaid : Prop := Claim7.holds Tryd.pinned (.plain (OpenSpec.upto crcThereSpec)) crcThereUptoCard

/-- THE SECOND FORM's CARD OF 'ferrylaw01.CrcPieces'. -/
def crcPiecesUptoCard : Claim7 := { stood := { row := crcPiecesUptoRow, standIns := [], harness := (true, "a84d9985ff9af72f52e41cbc0be53825e67db2f03c17cf6e6fbb35fed50a0812"), looks := true }, kinds := [], alts := [], laidByText := true, laidKinds := [.data, .sentinel], laidTests := true, laidLooks := .later }
def CrcPiecesUptoCardSaid : Prop := Claim7.holds Tryd.pinned (.plain (OpenSpec.upto crcPiecesSpec)) crcPiecesUptoCard

/-- THE SECOND FORM's CARD OF 'ferrylaw01.CrcKeeps'. -/
def crcKeepsUptoCard : Claim7 := { stood := { row := crcKeepsUptoRow, standIns := [], harness := (true, "a84d9985ff9af72f52e41cbc0be53825e67db2f03c17cf6e6fbb35fed50a0812"), looks := true }, kinds := [], alts := [], laidByText := true, laidKinds := [.data, .sentinel, .sentinel, .sentinel, .sentinel, .sentinel, .sentinel], laidTests := true, laidLooks := .later }
def CrcKeepsUptoCardSaid : Prop := Claim7.holds Tryd.pinned (.plain (OpenSpec.upto crcKeepsSpec)) crcKeepsUptoCard

/-- THE SECOND FORM's CARD OF 'ferrylaw01.CrcBursts'. -/
def crcBurstsUptoCard : Claim7 := { stood := { row := crcBurstsUptoRow, standIns := [], harness := (true, "a84d9985ff9af72f52e41cbc0be53825e67db2f03c17cf6e6fbb35fed50a0812"), looks := true }, kinds := [], alts := [], laidByText := true, laidKinds := [.handle, .sentinel, .sentinel, .sentinel, .sentinel, .sentinel, .sentinel, .sentinel, .sentinel, .sentinel, .sentinel, .sentinel, .sentinel, .sentinel, .sentinel, .sentinel, .sentinel, .sentinel, .sentinel, .sentinel, .sentinel], laidTests := true, laidLooks := .later }
def CrcBurstsUptoCardSaid : Prop := Claim7.holds Tryd.pinned (.plain (OpenSpec.upto crcBurstsSpec)) crcBurstsUptoCard

/-- THE SECOND FORM's CARD OF 'ferrylaw01.CrcMoves'. -/
def crcMovesUptoCard : Claim7 := { stood := { row := crcMovesUptoRow, standIns := [], harness := (true, "a84d9985ff9af72f52e41cbc0be53825e67db2f03c17cf6e6fbb35fed50a0812"), looks := true }, kinds := [], alts := [], laidByText := true, laidKinds := [.data, .handle, .sentinel, .sentinel, .sentinel, .sentinel, .sentinel, .sentinel, .sentinel, .sentinel, .sentinel, .sentinel, .sentinel, .sentinel, .sentinel, .sentinel, .sentinel, .sentinel, .sentinel, .sentinel, .sentinel, .sentinel], laidTests := true, laidLooks := .later }
def CrcMovesUptoCardSaid : Prop := Claim7.holds Tryd.pinned (.plain (OpenSpec.upto crcMovesSpec)) crcMovesUptoCard

/-- THE SECOND FORM's CARD OF 'ferrylaw01.CrcShifts'. -/
def crcShiftsUptoCard : Claim7 := { stood := { row := crcShiftsUptoRow, standIns := [], harness := (true, "a84d9985ff9af72f52e41cbc0be53825e67db2f03c17cf6e6fbb35fed50a0812"), looks := true }, kinds := [], alts := [], laidByText := true, laidKinds := [.data, .handle, .sentinel, .sentinel, .sentinel, .sentinel, .sentinel, .sentinel, .sentinel, .sentinel, .sentinel, .sentinel, .sentinel, .sentinel, .sentinel, .sentinel, .sentinel, .sentinel, .sentinel, .sentinel, .sentinel, .sentinel], laidTests := true, laidLooks := .later }
def CrcShiftsUptoCardSaid : Prop := Claim7.holds Tryd.pinned (.plain (OpenSpec.upto crcShiftsSpec)) crcShiftsUptoCard

/-- THE SECOND FORM's CARD OF 'ferrylaw01.CrcSeals'. -/
def crcSealsUptoCard : Claim7 := { stood := { row := crcSealsUptoRow, standIns := [], harness := (true, "a84d9985ff9af72f52e41cbc0be53825e67db2f03c17cf6e6fbb35fed50a0812"), looks := true }, kinds := [], alts := [], laidByText := true, laidKinds := [.handle, .sentinel, .sentinel, .sentinel, .sentinel, .sentinel, .sentinel, .sentinel, .sentinel, .sentinel, .sentinel, .sentinel, .sentinel, .sentinel, .sentinel, .sentinel, .sentinel, .sentinel, .sentinel, .sentinel, .sentinel], laidTests := true, laidLooks := .later }
def CrcSealsUptoCardSaid : Prop := Claim7.holds Tryd.pinned (.plain (OpenSpec.upto crcSealsSpec)) crcSealsUptoCard

/-- THE SECOND FORM's CARD OF 'ferrylaw01.CrcTold'. -/
def crcToldUptoCard : Claim7 := { stood := { row := crcToldUptoRow, standIns := [], harness := (true, "a84d9985ff9af72f52e41cbc0be53825e67db2f03c17cf6e6fbb35fed50a0812"), looks := true }, kinds := [], alts := [], laidByText := true, laidKinds := [.handle, .sentinel, .sentinel, .sentinel, .sentinel, .sentinel, .sentinel, .sentinel, .sentinel, .sentinel, .sentinel, .sentinel, .sentinel, .sentinel, .sentinel, .sentinel, .sentinel, .sentinel, .sentinel, .sentinel, .sentinel], laidTests := true, laidLooks := .later }
def CrcToldUptoCardSaid : Prop := Claim7.holds Tryd.pinned (.plain (OpenSpec.upto crcToldSpec)) crcToldUptoCard

/-- THE SECOND FORM's CARD OF 'ferrylaw01.CrcPatches'. -/
def crcPatchesUptoCard : Claim7 := { stood := { row := crcPatchesUptoRow, standIns := [], harness := (true, "a84d9985ff9af72f52e41cbc0be53825e67db2f03c17cf6e6fbb35fed50a0812"), looks := true }, kinds := [], alts := [], laidByText := true, laidKinds := [.handle, .sentinel, .sentinel, .sentinel, .sentinel, .sentinel, .sentinel, .sentinel, .sentinel, .sentinel, .sentinel, .sentinel, .sentinel, .sentinel, .sentinel, .sentinel, .sentinel, .sentinel, .sentinel, .sentinel, .sentinel], laidTests := true, laidLooks := .later }
def CrcPatchesUptoCardSaid : Prop := Claim7.holds Tryd.pinned (.plain (OpenSpec.upto crcPatchesSpec)) crcPatchesUptoCard

/-- THE SECOND FORM's CARD OF 'ferrylaw01.CrcForges'. -/
def crcForgesUptoCard : Claim7 := { stood := { row := crcForgesUptoRow, standIns := [], harness := (true, "a84d9985ff9af72f52e41cbc0be53825e67db2f03c17cf6e6fbb35fed50a0812"), looks := true }, kinds := [], alts := [], laidByText := true, laidKinds := [.handle, .sentinel, .sentinel, .sentinel, .sentinel, .sentinel, .sentinel, .sentinel, .sentinel, .sentinel, .sentinel, .sentinel, .sentinel, .sentinel, .sentinel, .sentinel, .sentinel, .sentinel, .sentinel, .sentinel, .sentinel], laidTests := true, laidLooks := .later }
def CrcForgesUptoCardSaid : Prop := Claim7.holds Tryd.pinned (.plain (OpenSpec.upto crcForgesSpec)) crcForgesUptoCard

/-- THE SECOND FORM's CARD OF 'ferrylaw01.CrcTurns'. -/
def crcTurnsUptoCard : Claim7 := { stood := { row := crcTurnsUptoRow, standIns := [], harness := (true, "a84d9985ff9af72f52e41cbc0be53825e67db2f03c17cf6e6fbb35fed50a0812"), looks := true }, kinds := [], alts := [], laidByText := true, laidKinds := [.data, .handle, .sentinel, .sentinel, .sentinel, .sentinel, .sentinel, .sentinel, .sentinel, .sentinel, .sentinel, .sentinel, .sentinel, .sentinel, .sentinel, .sentinel, .sentinel, .sentinel, .sentinel, .sentinel, .sentinel, .sentinel], laidTests := true, laidLooks := .later }
def CrcTurnsUptoCardSaid : Prop := Claim7.holds Tryd.pinned (.plain (OpenSpec.upto crcTurnsSpec)) crcTurnsUptoCard

/-- THE SECOND FORM's CARD OF 'ferrylaw01.CrcBack'. -/
def crcBackUptoCard : Claim7 := { stood := { row := crcBackUptoRow, standIns := [], harness := (true, "a84d9985ff9af72f52e41cbc0be53825e67db2f03c17cf6e6fbb35fed50a0812"), looks := true }, kinds := [], alts := [], laidByText := true, laidKinds := [.data, .handle, .sentinel, .sentinel, .sentinel, .sentinel, .sentinel, .sentinel, .sentinel, .sentinel, .sentinel, .sentinel, .sentinel, .sentinel, .sentinel, .sentinel, .sentinel, .sentinel, .sentinel, .sentinel, .sentinel, .sentinel], laidTests := true, laidLooks := .later }
def CrcBackUptoCardSaid : Prop := Claim7.holds Tryd.pinned (.plain (OpenSpec.upto crcBackSpec)) crcBackUptoCard
end Rows
end Go.Proofs.YtndninajnkejnaaDoor
