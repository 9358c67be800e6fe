/-
  DERIVED. GIVEN WITH THE SEED: THE CARDS: each row of YtadikbmbadldpaaDoorRows.lean that lists a variable, with what it lists TIED to the program's text (the seventh form; the later family's looks); each row that meets fmt, with fmt's text TOLD by the authors' own Lean function (tested against real Go, not proved from fmt's source: count such statements apart). THE CARD IS WHAT COUNTS. Prove the row's statement (the work); the ties are given (YtadikbmbadldpaaDoorTie.lean); close each card by the builder's one call (the guide's Derived/Test/ToyasCard.lean, 'card_holds'). Laid BY PROGRAM, IN A SANDBOX (cutbox-door.mjs). By AI agents, Wed Nov 11 2026. No macro, syntax, notation, axiom, sorry.
-/
import Derived.Test.YtadikbmbadldpaaDoorRows
import GoSem.ClaimSeven
namespace Go.Proofs.YtadikbmbadldpaaDoor
namespace Rows

/-- THE TIED CARD OF 'ferrylaw06.CoreFetches'. -/
def coreFetchesCard : Claim7 := { stood := { row := coreFetchesRow, standIns := [], harness := (true, "05f0911b9c07d968f0f688e7d26b5d2c2ab1d62a9c049c00dc21387a03728189"), looks := false }, kinds := [], alts := [], laidByText := true, laidKinds := [.sentinel, .sentinel, .sentinel, .listed, .data], laidTests := true, laidLooks := .later }
def CoreFetchesCardSaid : Prop := Claim7.holds Tryd.pinned (.plain (OpenSpec.ofChange coreFetchesSpec)) coreFetchesCard

/-- THE TIED CARD OF 'ferrylaw06.CoreSplits'. -/
def coreSplitsCard : Claim7 := { stood := { row := coreSplitsRow, standIns := [], harness := (true, "05f0911b9c07d968f0f688e7d26b5d2c2ab1d62a9c049c00dc21387a03728189"), looks := false }, kinds := [], alts := [], laidByText := true, laidKinds := [.sentinel, .sentinel, .sentinel, .sentinel, .listed, .data], laidTests := true, laidLooks := .later }
def CoreSplitsCardSaid : Prop := Claim7.holds Tryd.pinned (.plain (OpenSpec.ofChange coreSplitsSpec)) coreSplitsCard

/-- THE TIED CARD OF 'ferrylaw06.CoreMarks'. -/
def coreMarksCard : Claim7 := { stood := { row := coreMarksRow, standIns := [], harness := (true, "05f0911b9c07d968f0f688e7d26b5d2c2ab1d62a9c049c00dc21387a03728189"), looks := false }, kinds := [], alts := [], laidByText := true, laidKinds := [.sentinel, .sentinel, .sentinel, .sentinel, .listed, .data], laidTests := true, laidLooks := .later }
def CoreMarksCardSaid : Prop := Claim7.holds Tryd.pinned (.plain (OpenSpec.ofChange coreMarksSpec)) coreMarksCard

/-- THE TIED CARD OF 'ferrylaw06.CoreSteps'. -/
def coreStepsCard : Claim7 := { stood := { row := coreStepsRow, standIns := [], harness := (true, "05f0911b9c07d968f0f688e7d26b5d2c2ab1d62a9c049c00dc21387a03728189"), looks := false }, kinds := [], alts := [], laidByText := true, laidKinds := [.sentinel, .sentinel, .sentinel, .sentinel, .listed, .data], laidTests := true, laidLooks := .later }
def CoreStepsCardSaid : Prop := Claim7.holds Tryd.pinned (.plain (OpenSpec.ofChange coreStepsSpec)) coreStepsCard

/-- THE TIED CARD OF 'ferrylaw06.CoreGuards'. -/
def coreGuardsCard : Claim7 := { stood := { row := coreGuardsRow, standIns := [], harness := (true, "05f0911b9c07d968f0f688e7d26b5d2c2ab1d62a9c049c00dc21387a03728189"), looks := false }, kinds := [], alts := [], laidByText := true, laidKinds := [.sentinel, .sentinel, .sentinel, .sentinel, .listed, .data], laidTests := true, laidLooks := .later }
def CoreGuardsCardSaid : Prop := Claim7.holds Tryd.pinned (.plain (OpenSpec.ofChange coreGuardsSpec)) coreGuardsCard

/-- THE TIED CARD OF 'ferrylaw06.CoreWalks'. -/
def coreWalksCard : Claim7 := { stood := { row := coreWalksRow, standIns := [], harness := (true, "05f0911b9c07d968f0f688e7d26b5d2c2ab1d62a9c049c00dc21387a03728189"), looks := false }, kinds := [], alts := [], laidByText := true, laidKinds := [.sentinel, .sentinel, .sentinel, .sentinel, .listed, .data], laidTests := true, laidLooks := .later }
def CoreWalksCardSaid : Prop := Claim7.holds Tryd.pinned (.plain (OpenSpec.ofChange coreWalksSpec)) coreWalksCard

/-- THE TIED CARD OF 'ferrylaw06.CoreKeeps'. -/
def coreKeepsCard : Claim7 := { stood := { row := coreKeepsRow, standIns := [], harness := (true, "05f0911b9c07d968f0f688e7d26b5d2c2ab1d62a9c049c00dc21387a03728189"), looks := false }, kinds := [], alts := [], laidByText := true, laidKinds := [.sentinel, .sentinel, .sentinel, .sentinel, .listed, .data], laidTests := true, laidLooks := .later }
def CoreKeepsCardSaid : Prop := Claim7.holds Tryd.pinned (.plain (OpenSpec.ofChange coreKeepsSpec)) coreKeepsCard

/-- THE SECOND FORM's CARD OF 'ferrylaw06.CoreFetches'. -/
def coreFetchesUptoCard : Claim7 := { stood := { row := coreFetchesUptoRow, standIns := [], harness := (true, "05f0911b9c07d968f0f688e7d26b5d2c2ab1d62a9c049c00dc21387a03728189"), looks := false }, kinds := [], alts := [], laidByText := true, laidKinds := [.sentinel, .sentinel, .sentinel, .listed, .data], laidTests := true, laidLooks := .later }
def CoreFetchesUptoCardSaid : Prop := Claim7.holds Tryd.pinned (.plain (OpenSpec.upto coreFetchesSpec)) coreFetchesUptoCard

/-- THE SECOND FORM's CARD OF 'ferrylaw06.CoreSplits'. -/
def coreSplitsUptoCard : Claim7 := { stood := { row := coreSplitsUptoRow, standIns := [], harness := (true, "05f0911b9c07d968f0f688e7d26b5d2c2ab1d62a9c049c00dc21387a03728189"), looks := false }, kinds := [], alts := [], laidByText := true, laidKinds := [.sentinel, .sentinel, .sentinel, .sentinel, .listed, .data], laidTests := true, laidLooks := .later }
def CoreSplitsUptoCardSaid : Prop := Claim7.holds Tryd.pinned (.plain (OpenSpec.upto coreSplitsSpec)) coreSplitsUptoCard

/-- THE SECOND FORM's CARD OF 'ferrylaw06.CoreMarks'. -/
def coreMarksUptoCard : Claim7 := { stood := { row := coreMarksUptoRow, standIns := [], harness := (true, "05f0911b9c07d968f0f688e7d26b5d2c2ab1d62a9c049c00dc21387a03728189"), looks := false }, kinds := [], alts := [], laidByText := true, laidKinds := [.sentinel, .sentinel, .sentinel, .sentinel, .listed, .data], laidTests := true, laidLooks := .later }
def CoreMarksUptoCardSaid : Prop := Claim7.holds Tryd.pinned (.plain (OpenSpec.upto coreMarksSpec)) coreMarksUptoCard

/-- THE SECOND FORM's CARD OF 'ferrylaw06.CoreSteps'. -/
def coreStepsUptoCard : Claim7 := { stood := { row := coreStepsUptoRow, standIns := [], harness := (true, "05f0911b9c07d968f0f688e7d26b5d2c2ab1d62a9c049c00dc21387a03728189"), looks := false }, kinds := [], alts := [], laidByText := true, laidKinds := [.sentinel, .sentinel, .sentinel, .sentinel, .listed, .data], laidTests := true, laidLooks := .later }
def CoreStepsUptoCardSaid : Prop := Claim7.holds Tryd.pinned (.plain (OpenSpec.upto coreStepsSpec)) coreStepsUptoCard

/-- THE SECOND FORM's CARD OF 'ferrylaw06.CoreGuards'. -/
def coreGuardsUptoCard : Claim7 := { stood := { row := coreGuardsUptoRow, standIns := [], harness := (true, "05f0911b9c07d968f0f688e7d26b5d2c2ab1d62a9c049c00dc21387a03728189"), looks := false }, kinds := [], alts := [], laidByText := true, laidKinds := [.sentinel, .sentinel, .sentinel, .sentinel, .listed, .data], laidTests := true, laidLooks := .later }
def CoreGuardsUptoCardSaid : Prop := Claim7.holds Tryd.pinned (.plain (OpenSpec.upto coreGuardsSpec)) coreGuardsUptoCard

/-- THE SECOND FORM's CARD OF 'ferrylaw06.CoreWalks'. -/
def coreWalksUptoCard : Claim7 := { stood := { row := coreWalksUptoRow, standIns := [], harness := (true, "05f0911b9c07d968f0f688e7d26b5d2c2ab1d62a9c049c00dc21387a03728189"), looks := false }, kinds := [], alts := [], laidByText := true, laidKinds := [.sentinel, .sentinel, .sentinel, .sentinel, .listed, .data], laidTests := true, laidLooks := .later }
def CoreWalksUptoCardSaid : Prop := Claim7.holds Tryd.pinned (.plain (OpenSpec.upto coreWalksSpec)) coreWalksUptoCard

/-- THE SECOND FORM's CARD OF 'ferrylaw06.CoreKeeps'. -/
def coreKeepsUptoCard : Claim7 := { stood := { row := coreKeepsUptoRow, standIns := [], harness := (true, "05f0911b9c07d968f0f688e7d26b5d2c2ab1d62a9c049c00dc21387a03728189"), looks := false }, kinds := [], alts := [], laidByText := true, laidKinds := [.sentinel, .sentinel, .sentinel, .sentinel, .listed, .data], laidTests := true, laidLooks := .later }
def CoreKeepsUptoCardSaid : Prop := Claim7.holds Tryd.pinned (.plain (OpenSpec.upto coreKeepsSpec)) coreKeepsUptoCard
end Rows
end Go.Proofs.YtadikbmbadldpaaDoor
