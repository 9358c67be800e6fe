/-
  DERIVED. GIVEN WITH THE SEED: THE CARDS: each row of YtjlgnbjfgeppcaaDoorRows.lean that lists a variable, with what it lists TIED to the program's text (the seventh form; the later family's looks); each row that meets fmt, with fmt's text TOLD by the authors' own Lean function (tested against real Go, not proved from fmt's source: count such statements apart). THE CARD IS WHAT COUNTS. Prove the row's statement (the work); the ties are given (YtjlgnbjfgeppcaaDoorTie.lean); close each card by the builder's one call (the guide's Derived/Test/ToyasCard.lean, 'card_holds'). Laid BY PROGRAM, IN A SANDBOX (cutbox-door.mjs). By AI agents, Wed Nov 11 2026. No macro, syntax, notation, axiom, sorry.
-/
import Derived.Test.YtjlgnbjfgeppcaaDoorRows
import GoSem.ClaimSeven
namespace Go.Proofs.YtjlgnbjfgeppcaaDoor
namespace Rows

/-- THE TIED CARD OF 'ferrylaw07.PortQueues'. -/
def portQueuesCard : Claim7 := { stood := { row := portQueuesRow, standIns := [], harness := (true, "ad3895ae587f60841d501daecef34c982191f8e25b04c3d11d0af8bd01ab0374"), looks := true }, kinds := [], alts := [], laidByText := true, laidKinds := [.sentinel, .sentinel, .sentinel, .sentinel, .sentinel, .sentinel, .sentinel, .sentinel, .sentinel, .sentinel, .sentinel, .sentinel, .sentinel, .sentinel, .sentinel, .sentinel, .sentinel, .sentinel, .sentinel, .sentinel], laidTests := true, laidLooks := .later }
def PortQueuesCardSaid : Prop := Claim7.holds Tryd.pinned (.plain (OpenSpec.ofChange portQueuesSpec)) portQueuesCard

/-- THE TIED CARD OF 'ferrylaw07.PortMemory'. -/
def portMemoryCard : Claim7 := { stood := { row := portMemoryRow, standIns := [], harness := (true, "ad3895ae587f60841d501daecef34c982191f8e25b04c3d11d0af8bd01ab0374"), looks := true }, kinds := [], alts := [], laidByText := true, laidKinds := [.sentinel, .sentinel, .sentinel, .sentinel, .sentinel, .sentinel, .sentinel, .sentinel, .sentinel, .sentinel, .sentinel, .sentinel, .sentinel, .sentinel, .sentinel, .sentinel, .sentinel, .sentinel, .sentinel, .sentinel], laidTests := true, laidLooks := .later }
def PortMemoryCardSaid : Prop := Claim7.holds Tryd.pinned (.plain (OpenSpec.ofChange portMemorySpec)) portMemoryCard

/-- THE TIED CARD OF 'ferrylaw07.PortMoves'. -/
def portMovesCard : Claim7 := { stood := { row := portMovesRow, standIns := [], harness := (true, "ad3895ae587f60841d501daecef34c982191f8e25b04c3d11d0af8bd01ab0374"), looks := true }, kinds := [], alts := [], laidByText := true, laidKinds := [.handle, .sentinel, .sentinel, .sentinel, .sentinel, .sentinel, .sentinel, .sentinel, .sentinel, .sentinel, .sentinel, .sentinel, .sentinel, .sentinel, .sentinel, .sentinel, .sentinel, .sentinel, .sentinel, .sentinel, .sentinel], laidTests := true, laidLooks := .later }
def PortMovesCardSaid : Prop := Claim7.holds Tryd.pinned (.plain (OpenSpec.ofChange portMovesSpec)) portMovesCard

/-- THE TIED CARD OF 'ferrylaw07.PortChecks'. -/
def portChecksCard : Claim7 := { stood := { row := portChecksRow, standIns := [], harness := (true, "ad3895ae587f60841d501daecef34c982191f8e25b04c3d11d0af8bd01ab0374"), looks := true }, kinds := [], alts := [], laidByText := true, laidKinds := [.handle, .sentinel, .sentinel, .sentinel, .sentinel, .sentinel, .sentinel, .sentinel, .sentinel, .sentinel, .sentinel, .sentinel, .sentinel, .sentinel, .sentinel, .sentinel, .sentinel, .sentinel, .sentinel, .sentinel, .sentinel], laidTests := true, laidLooks := .later }
def PortChecksCardSaid : Prop := Claim7.holds Tryd.pinned (.plain (OpenSpec.ofChange portChecksSpec)) portChecksCard

/-- THE TIED CARD OF 'ferrylaw07.PortFrames'. -/
def portFramesCard : Claim7 := { stood := { row := portFramesRow, standIns := [], harness := (true, "ad3895ae587f60841d501daecef34c982191f8e25b04c3d11d0af8bd01ab0374"), looks := true }, kinds := [], alts := [], laidByText := true, laidKinds := [.handle, .sentinel, .sentinel, .sentinel, .sentinel, .sentinel, .sentinel, .sentinel, .sentinel, .sentinel, .sentinel, .sentinel, .sentinel, .sentinel, .sentinel, .sentinel, .sentinel, .sentinel, .sentinel, .sentinel, .sentinel], laidTests := true, laidLooks := .later }
def PortFramesCardSaid : Prop := Claim7.holds Tryd.pinned (.plain (OpenSpec.ofChange portFramesSpec)) portFramesCard

/-- THE TIED CARD OF 'ferrylaw07.PortLoses'. -/
def portLosesCard : Claim7 := { stood := { row := portLosesRow, standIns := [], harness := (true, "ad3895ae587f60841d501daecef34c982191f8e25b04c3d11d0af8bd01ab0374"), looks := true }, kinds := [], alts := [], laidByText := true, laidKinds := [.handle, .sentinel, .sentinel, .sentinel, .sentinel, .sentinel, .sentinel, .sentinel, .sentinel, .sentinel, .sentinel, .sentinel, .sentinel, .sentinel, .sentinel, .sentinel, .sentinel, .sentinel, .sentinel, .sentinel, .sentinel], laidTests := true, laidLooks := .later }
def PortLosesCardSaid : Prop := Claim7.holds Tryd.pinned (.plain (OpenSpec.ofChange portLosesSpec)) portLosesCard

/-- THE SECOND FORM's CARD OF 'ferrylaw07.PortQueues'. -/
def portQueuesUptoCard : Claim7 := { stood := { row := portQueuesUptoRow, standIns := [], harness := (true, "ad3895ae587f60841d501daecef34c982191f8e25b04c3d11d0af8bd01ab0374"), looks := true }, kinds := [], alts := [], laidByText := true, laidKinds := [.sentinel, .sentinel, .sentinel, .sentinel, .sentinel, .sentinel, .sentinel, .sentinel, .sentinel, .sentinel, .sentinel, .sentinel, .sentinel, .sentinel, .sentinel, .sentinel, .sentinel, .sentinel, .sentinel, .sentinel], laidTests := true, laidLooks := .later }
def PortQueuesUptoCardSaid : Prop := Claim7.holds Tryd.pinned (.plain (OpenSpec.upto portQueuesSpec)) portQueuesUptoCard

/-- THE SECOND FORM's CARD OF 'ferrylaw07.PortMemory'. -/
def portMemoryUptoCard : Claim7 := { stood := { row := portMemoryUptoRow, standIns := [], harness := (true, "ad3895ae587f60841d501daecef34c982191f8e25b04c3d11d0af8bd01ab0374"), looks := true }, kinds := [], alts := [], laidByText := true, laidKinds := [.sentinel, .sentinel, .sentinel, .sentinel, .sentinel, .sentinel, .sentinel, .sentinel, .sentinel, .sentinel, .sentinel, .sentinel, .sentinel, .sentinel, .sentinel, .sentinel, .sentinel, .sentinel, .sentinel, .sentinel], laidTests := true, laidLooks := .later }
def PortMemoryUptoCardSaid : Prop := Claim7.holds Tryd.pinned (.plain (OpenSpec.upto portMemorySpec)) portMemoryUptoCard

/-- THE SECOND FORM's CARD OF 'ferrylaw07.PortMoves'. -/
def portMovesUptoCard : Claim7 := { stood := { row := portMovesUptoRow, standIns := [], harness := (true, "ad3895ae587f60841d501daecef34c982191f8e25b04c3d11d0af8bd01ab0374"), looks := true }, kinds := [], alts := [], laidByText := true, laidKinds := [.handle, .sentinel, .sentinel, .sentinel, .sentinel, .sentinel, .sentinel, .sentinel, .sentinel, .sentinel, .sentinel, .sentinel, .sentinel, .sentinel, .sentinel, .sentinel, .sentinel, .sentinel, .sentinel, .sentinel, .sentinel], laidTests := true, laidLooks := .later }
def PortMovesUptoCardSaid : Prop := Claim7.holds Tryd.pinned (.plain (OpenSpec.upto portMovesSpec)) portMovesUptoCard

/-- THE SECOND FORM's CARD OF 'ferrylaw07.PortChecks'. -/
def portChecksUptoCard : Claim7 := { stood := { row := portChecksUptoRow, standIns := [], harness := (true, "ad3895ae587f60841d501daecef34c982191f8e25b04c3d11d0af8bd01ab0374"), looks := true }, kinds := [], alts := [], laidByText := true, laidKinds := [.handle, .sentinel, .sentinel, .sentinel, .sentinel, .sentinel, .sentinel, .sentinel, .sentinel, .sentinel, .sentinel, .sentinel, .sentinel, .sentinel, .sentinel, .sentinel, .sentinel, .sentinel, .sentinel, .sentinel, .sentinel], laidTests := true, laidLooks := .later }
def PortChecksUptoCardSaid : Prop := Claim7.holds Tryd.pinned (.plain (OpenSpec.upto portChecksSpec)) portChecksUptoCard

/-- THE SECOND FORM's CARD OF 'ferrylaw07.PortFrames'. -/
def portFramesUptoCard : Claim7 := { stood := { row := portFramesUptoRow, standIns := [], harness := (true, "ad3895ae587f60841d501daecef34c982191f8e25b04c3d11d0af8bd01ab0374"), looks := true }, kinds := [], alts := [], laidByText := true, laidKinds := [.handle, .sentinel, .sentinel, .sentinel, .sentinel, .sentinel, .sentinel, .sentinel, .sentinel, .sentinel, .sentinel, .sentinel, .sentinel, .sentinel, .sentinel, .sentinel, .sentinel, .sentinel, .sentinel, .sentinel, .sentinel], laidTests := true, laidLooks := .later }
def PortFramesUptoCardSaid : Prop := Claim7.holds Tryd.pinned (.plain (OpenSpec.upto portFramesSpec)) portFramesUptoCard

/-- THE SECOND FORM's CARD OF 'ferrylaw07.PortLoses'. -/
def portLosesUptoCard : Claim7 := { stood := { row := portLosesUptoRow, standIns := [], harness := (true, "ad3895ae587f60841d501daecef34c982191f8e25b04c3d11d0af8bd01ab0374"), looks := true }, kinds := [], alts := [], laidByText := true, laidKinds := [.handle, .sentinel, .sentinel, .sentinel, .sentinel, .sentinel, .sentinel, .sentinel, .sentinel, .sentinel, .sentinel, .sentinel, .sentinel, .sentinel, .sentinel, .sentinel, .sentinel, .sentinel, .sentinel, .sentinel, .sentinel], laidTests := true, laidLooks := .later }
def PortLosesUptoCardSaid : Prop := Claim7.holds Tryd.pinned (.plain (OpenSpec.upto portLosesSpec)) portLosesUptoCard
end Rows
end Go.Proofs.YtjlgnbjfgeppcaaDoor
