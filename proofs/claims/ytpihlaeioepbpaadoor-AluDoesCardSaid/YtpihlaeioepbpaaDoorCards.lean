/-
  DERIVED. GIVEN WITH THE SEED: THE CARDS: each row of YtpihlaeioepbpaaDoorRows.lean that lists a variable, with what it lists TIED to the program's text (the seventh form; the later family's looks); each row that meets fmt, with fmt's text TOLD by the authors' own Lean function (tested against real Go, not proved from fmt's source: count such statements apart). THE CARD IS WHAT COUNTS. Prove the row's statement (the work); the ties are given (YtpihlaeioepbpaaDoorTie.lean); close each card by the builder's one call (the guide's Derived/Test/ToyasCard.lean, 'card_holds'). Laid BY PROGRAM, IN A SANDBOX (cutbox-door.mjs). By AI agents, Wed Nov 11 2026. No macro, syntax, notation, axiom, sorry.
-/
import Derived.Test.YtpihlaeioepbpaaDoorRows
import GoSem.ClaimSeven
namespace Go.Proofs.YtpihlaeioepbpaaDoor
namespace Rows

/-- THE TIED CARD OF 'ferrylaw03.AluRing'. -/
def aluRingCard : Claim7 := { stood := { row := aluRingRow, standIns := [], harness := (true, "ba3a05f624605536e50514e148815f376f7c917aa13ff93bea93eecd64acf309"), looks := true }, kinds := [], alts := [], laidByText := true, laidKinds := [.sentinel, .sentinel], laidTests := true, laidLooks := .later }
def AluRingCardSaid : Prop := Claim7.holds Tryd.pinned (.plain (OpenSpec.ofChange aluRingSpec)) aluRingCard

/-- THE TIED CARD OF 'ferrylaw03.AluOrder'. -/
def aluOrderCard : Claim7 := { stood := { row := aluOrderRow, standIns := [], harness := (true, "ba3a05f624605536e50514e148815f376f7c917aa13ff93bea93eecd64acf309"), looks := true }, kinds := [], alts := [], laidByText := true, laidKinds := [.sentinel, .sentinel], laidTests := true, laidLooks := .later }
def AluOrderCardSaid : Prop := Claim7.holds Tryd.pinned (.plain (OpenSpec.ofChange aluOrderSpec)) aluOrderCard

/-- THE TIED CARD OF 'ferrylaw03.AluShifts'. -/
def aluShiftsCard : Claim7 := { stood := { row := aluShiftsRow, standIns := [], harness := (true, "ba3a05f624605536e50514e148815f376f7c917aa13ff93bea93eecd64acf309"), looks := true }, kinds := [], alts := [], laidByText := true, laidKinds := [.sentinel, .sentinel], laidTests := true, laidLooks := .later }
def AluShiftsCardSaid : Prop := Claim7.holds Tryd.pinned (.plain (OpenSpec.ofChange aluShiftsSpec)) aluShiftsCard

/-- THE TIED CARD OF 'ferrylaw03.AluFields'. -/
def aluFieldsCard : Claim7 := { stood := { row := aluFieldsRow, standIns := [], harness := (true, "ba3a05f624605536e50514e148815f376f7c917aa13ff93bea93eecd64acf309"), looks := true }, kinds := [], alts := [], laidByText := true, laidKinds := [.sentinel, .sentinel, .sentinel, .sentinel], laidTests := true, laidLooks := .later }
def AluFieldsCardSaid : Prop := Claim7.holds Tryd.pinned (.plain (OpenSpec.ofChange aluFieldsSpec)) aluFieldsCard

/-- THE TIED CARD OF 'ferrylaw03.AluDivides'. -/
def aluDividesCard : Claim7 := { stood := { row := aluDividesRow, standIns := [], harness := (true, "ba3a05f624605536e50514e148815f376f7c917aa13ff93bea93eecd64acf309"), looks := true }, kinds := [], alts := [], laidByText := true, laidKinds := [.sentinel, .sentinel, .sentinel, .sentinel, .sentinel, .sentinel, .sentinel, .sentinel, .sentinel, .sentinel, .sentinel, .sentinel, .sentinel, .sentinel, .sentinel, .sentinel, .sentinel, .sentinel, .sentinel, .sentinel], laidTests := true, laidLooks := .later }
def AluDividesCardSaid : Prop := Claim7.holds Tryd.pinned (.plain (OpenSpec.ofChange aluDividesSpec)) aluDividesCard

/-- THE TIED CARD OF 'ferrylaw03.AluLong'. -/
def aluLongCard : Claim7 := { stood := { row := aluLongRow, standIns := [], harness := (true, "ba3a05f624605536e50514e148815f376f7c917aa13ff93bea93eecd64acf309"), looks := true }, kinds := [], alts := [], laidByText := true, laidKinds := [.sentinel, .sentinel, .sentinel, .sentinel, .sentinel, .sentinel, .sentinel, .sentinel, .sentinel, .sentinel, .sentinel, .sentinel, .sentinel, .sentinel, .sentinel, .sentinel, .sentinel, .sentinel, .sentinel, .sentinel], laidTests := true, laidLooks := .later }
def AluLongCardSaid : Prop := Claim7.holds Tryd.pinned (.plain (OpenSpec.ofChange aluLongSpec)) aluLongCard

/-- THE TIED CARD OF 'ferrylaw03.AluCuts'. -/
def aluCutsCard : Claim7 := { stood := { row := aluCutsRow, standIns := [], harness := (true, "ba3a05f624605536e50514e148815f376f7c917aa13ff93bea93eecd64acf309"), looks := true }, kinds := [], alts := [], laidByText := true, laidKinds := [.handle, .sentinel, .sentinel, .sentinel, .sentinel, .sentinel, .sentinel, .sentinel, .sentinel, .sentinel, .sentinel, .sentinel, .sentinel, .sentinel, .sentinel, .sentinel, .sentinel, .sentinel, .sentinel, .sentinel, .sentinel], laidTests := true, laidLooks := .later }
def AluCutsCardSaid : Prop := Claim7.holds Tryd.pinned (.plain (OpenSpec.ofChange aluCutsSpec)) aluCutsCard

/-- THE TIED CARD OF 'ferrylaw03.AluDoes'. -/
def aluDoesCard : Claim7 := { stood := { row := aluDoesRow, standIns := [], harness := (true, "ba3a05f624605536e50514e148815f376f7c917aa13ff93bea93eecd64acf309"), looks := true }, kinds := [], alts := [], laidByText := true, laidKinds := [.handle, .sentinel, .sentinel, .sentinel, .sentinel, .sentinel, .sentinel, .sentinel, .sentinel, .sentinel, .sentinel, .sentinel, .sentinel, .sentinel, .sentinel, .sentinel, .sentinel, .sentinel, .sentinel, .sentinel, .sentinel], laidTests := true, laidLooks := .later }
def AluDoesCardSaid : Prop := Claim7.holds Tryd.pinned (.plain (OpenSpec.ofChange aluDoesSpec)) aluDoesCard

/-- THE TIED CARD OF 'ferrylaw03.AluWides'. -/
def aluWidesCard : Claim7 := { stood := { row := aluWidesRow, standIns := [], harness := (true, "ba3a05f624605536e50514e148815f376f7c917aa13ff93bea93eecd64acf309"), looks := true }, kinds := [], alts := [], laidByText := true, laidKinds := [.handle, .sentinel, .sentinel, .sentinel, .sentinel, .sentinel, .sentinel, .sentinel, .sentinel, .sentinel, .sentinel, .sentinel, .sentinel, .sentinel, .sentinel, .sentinel, .sentinel, .sentinel, .sentinel, .sentinel, .sentinel], laidTests := true, laidLooks := .later }
def AluWidesCardSaid : Prop := Claim7.holds Tryd.pinned (.plain (OpenSpec.ofChange aluWidesSpec)) aluWidesCard

/-- THE SECOND FORM's CARD OF 'ferrylaw03.AluRing'. -/
def aluRingUptoCard : Claim7 := { stood := { row := aluRingUptoRow, standIns := [], harness := (true, "ba3a05f624605536e50514e148815f376f7c917aa13ff93bea93eecd64acf309"), looks := true }, kinds := [], alts := [], laidByText := true, laidKinds := [.sentinel, .sentinel], laidTests := true, laidLooks := .later }
def AluRingUptoCardSaid : Prop := Claim7.holds Tryd.pinned (.plain (OpenSpec.upto aluRingSpec)) aluRingUptoCard

/-- THE SECOND FORM's CARD OF 'ferrylaw03.AluOrder'. -/
def aluOrderUptoCard : Claim7 := { stood := { row := aluOrderUptoRow, standIns := [], harness := (true, "ba3a05f624605536e50514e148815f376f7c917aa13ff93bea93eecd64acf309"), looks := true }, kinds := [], alts := [], laidByText := true, laidKinds := [.sentinel, .sentinel], laidTests := true, laidLooks := .later }
def AluOrderUptoCardSaid : Prop := Claim7.holds Tryd.pinned (.plain (OpenSpec.upto aluOrderSpec)) aluOrderUptoCard

/-- THE SECOND FORM's CARD OF 'ferrylaw03.AluShifts'. -/
def aluShiftsUptoCard : Claim7 := { stood := { row := aluShiftsUptoRow, standIns := [], harness := (true, "ba3a05f624605536e50514e148815f376f7c917aa13ff93bea93eecd64acf309"), looks := true }, kinds := [], alts := [], laidByText := true, laidKinds := [.sentinel, .sentinel], laidTests := true, laidLooks := .later }
def AluShiftsUptoCardSaid : Prop := Claim7.holds Tryd.pinned (.plain (OpenSpec.upto aluShiftsSpec)) aluShiftsUptoCard

/-- THE SECOND FORM's CARD OF 'ferrylaw03.AluFields'. -/
def aluFieldsUptoCard : Claim7 := { stood := { row := aluFieldsUptoRow, standIns := [], harness := (true, "ba3a05f624605536e50514e148815f376f7c917aa13ff93bea93eecd64acf309"), looks := true }, kinds := [], alts := [], laidByText := true, laidKinds := [.sentinel, .sentinel, .sentinel, .sentinel], laidTests := true, laidLooks := .later }
def AluFieldsUptoCardSaid : Prop := Claim7.holds Tryd.pinned (.plain (OpenSpec.upto aluFieldsSpec)) aluFieldsUptoCard

/-- THE SECOND FORM's CARD OF 'ferrylaw03.AluDivides'. -/
def aluDividesUptoCard : Claim7 := { stood := { row := aluDividesUptoRow, standIns := [], harness := (true, "ba3a05f624605536e50514e148815f376f7c917aa13ff93bea93eecd64acf309"), looks := true }, kinds := [], alts := [], laidByText := true, laidKinds := [.sentinel, .sentinel, .sentinel, .sentinel, .sentinel, .sentinel, .sentinel, .sentinel, .sentinel, .sentinel, .sentinel, .sentinel, .sentinel, .sentinel, .sentinel, .sentinel, .sentinel, .sentinel, .sentinel, .sentinel], laidTests := true, laidLooks := .later }
def AluDividesUptoCardSaid : Prop := Claim7.holds Tryd.pinned (.plain (OpenSpec.upto aluDividesSpec)) aluDividesUptoCard

/-- THE SECOND FORM's CARD OF 'ferrylaw03.AluLong'. -/
def aluLongUptoCard : Claim7 := { stood := { row := aluLongUptoRow, standIns := [], harness := (true, "ba3a05f624605536e50514e148815f376f7c917aa13ff93bea93eecd64acf309"), looks := true }, kinds := [], alts := [], laidByText := true, laidKinds := [.sentinel, .sentinel, .sentinel, .sentinel, .sentinel, .sentinel, .sentinel, .sentinel, .sentinel, .sentinel, .sentinel, .sentinel, .sentinel, .sentinel, .sentinel, .sentinel, .sentinel, .sentinel, .sentinel, .sentinel], laidTests := true, laidLooks := .later }
def AluLongUptoCardSaid : Prop := Claim7.holds Tryd.pinned (.plain (OpenSpec.upto aluLongSpec)) aluLongUptoCard

/-- THE SECOND FORM's CARD OF 'ferrylaw03.AluCuts'. -/
def aluCutsUptoCard : Claim7 := { stood := { row := aluCutsUptoRow, standIns := [], harness := (true, "ba3a05f624605536e50514e148815f376f7c917aa13ff93bea93eecd64acf309"), looks := true }, kinds := [], alts := [], laidByText := true, laidKinds := [.handle, .sentinel, .sentinel, .sentinel, .sentinel, .sentinel, .sentinel, .sentinel, .sentinel, .sentinel, .sentinel, .sentinel, .sentinel, .sentinel, .sentinel, .sentinel, .sentinel, .sentinel, .sentinel, .sentinel, .sentinel], laidTests := true, laidLooks := .later }
def AluCutsUptoCardSaid : Prop := Claim7.holds Tryd.pinned (.plain (OpenSpec.upto aluCutsSpec)) aluCutsUptoCard

/-- THE SECOND FORM's CARD OF 'ferrylaw03.AluDoes'. -/
def aluDoesUptoCard : Claim7 := { stood := { row := aluDoesUptoRow, standIns := [], harness := (true, "ba3a05f624605536e50514e148815f376f7c917aa13ff93bea93eecd64acf309"), looks := true }, kinds := [], alts := [], laidByText := true, laidKinds := [.handle, .sentinel, .sentinel, .sentinel, .sentinel, .sentinel, .sentinel, .sentinel, .sentinel, .sentinel, .sentinel, .sentinel, .sentinel, .sentinel, .sentinel, .sentinel, .sentinel, .sentinel, .sentinel, .sentinel, .sentinel], laidTests := true, laidLooks := .later }
def AluDoesUptoCardSaid : Prop := Claim7.holds Tryd.pinned (.plain (OpenSpec.upto aluDoesSpec)) aluDoesUptoCard

/-- THE SECOND FORM's CARD OF 'ferrylaw03.AluWides'. -/
def aluWidesUptoCard : Claim7 := { stood := { row := aluWidesUptoRow, standIns := [], harness := (true, "ba3a05f624605536e50514e148815f376f7c917aa13ff93bea93eecd64acf309"), looks := true }, kinds := [], alts := [], laidByText := true, laidKinds := [.handle, .sentinel, .sentinel, .sentinel, .sentinel, .sentinel, .sentinel, .sentinel, .sentinel, .sentinel, .sentinel, .sentinel, .sentinel, .sentinel, .sentinel, .sentinel, .sentinel, .sentinel, .sentinel, .sentinel, .sentinel], laidTests := true, laidLooks := .later }
def AluWidesUptoCardSaid : Prop := Claim7.holds Tryd.pinned (.plain (OpenSpec.upto aluWidesSpec)) aluWidesUptoCard
end Rows
end Go.Proofs.YtpihlaeioepbpaaDoor
