/-
  DERIVED. GIVEN WITH THE SEED: THE CARDS: each row of YtkkclkmiaenipaaDoorRows.lean that lists a variable, with what it lists TIED to the program's text (the seventh form; the later family's looks); each row that meets fmt, with fmt's text TOLD by the authors' own Lean function (tested against real Go, not proved from fmt's source: count such statements apart). THE CARD IS WHAT COUNTS. Prove the row's statement (the work); the ties are given (YtkkclkmiaenipaaDoorTie.lean); close each card by the builder's one call (the guide's Derived/Test/ToyasCard.lean, 'card_holds'). Laid BY PROGRAM, IN A SANDBOX (cutbox-door.mjs). By AI agents, Wed Nov 11 2026. No macro, syntax, notation, axiom, sorry.
-/
import Derived.Test.YtkkclkmiaenipaaDoorRows
import GoSem.ClaimSeven
namespace Go.Proofs.YtkkclkmiaenipaaDoor
namespace Rows

/-- THE TIED CARD OF 'ferrylaw05.PageSums'. -/
def pageSumsCard : Claim7 := { stood := { row := pageSumsRow, standIns := [], harness := (true, "05bd069b0321b90bba90200abeaf5a805f90a5d54f8e98fadb9d5b61fd3da958"), looks := true }, kinds := [], alts := [], laidByText := true, laidKinds := [.sentinel], laidTests := true, laidLooks := .later }
def PageSumsCardSaid : Prop := Claim7.holds Tryd.pinned (.plain (OpenSpec.ofChange pageSumsSpec)) pageSumsCard

/-- THE TIED CARD OF 'ferrylaw05.PageMarks'. -/
def pageMarksCard : Claim7 := { stood := { row := pageMarksRow, standIns := [], harness := (true, "05bd069b0321b90bba90200abeaf5a805f90a5d54f8e98fadb9d5b61fd3da958"), looks := true }, kinds := [], alts := [], laidByText := true, laidKinds := [.sentinel, .sentinel], laidTests := true, laidLooks := .later }
def PageMarksCardSaid : Prop := Claim7.holds Tryd.pinned (.plain (OpenSpec.ofChange pageMarksSpec)) pageMarksCard

/-- THE TIED CARD OF 'ferrylaw05.PageMakes'. -/
def pageMakesCard : Claim7 := { stood := { row := pageMakesRow, standIns := [], harness := (true, "05bd069b0321b90bba90200abeaf5a805f90a5d54f8e98fadb9d5b61fd3da958"), looks := true }, kinds := [], alts := [], laidByText := true, laidKinds := [.handle, .sentinel, .sentinel, .sentinel, .sentinel, .sentinel, .sentinel, .sentinel, .sentinel, .sentinel, .sentinel, .sentinel, .sentinel, .sentinel, .sentinel, .sentinel, .sentinel, .sentinel, .sentinel, .sentinel, .sentinel], laidTests := true, laidLooks := .later }
def PageMakesCardSaid : Prop := Claim7.holds Tryd.pinned (.plain (OpenSpec.ofChange pageMakesSpec)) pageMakesCard

/-- THE TIED CARD OF 'ferrylaw05.PageCompares'. -/
def pageComparesCard : Claim7 := { stood := { row := pageComparesRow, standIns := [], harness := (true, "05bd069b0321b90bba90200abeaf5a805f90a5d54f8e98fadb9d5b61fd3da958"), looks := true }, kinds := [], alts := [], laidByText := true, laidKinds := [.handle, .sentinel, .sentinel, .sentinel, .sentinel, .sentinel, .sentinel, .sentinel, .sentinel, .sentinel, .sentinel, .sentinel, .sentinel, .sentinel, .sentinel, .sentinel, .sentinel, .sentinel, .sentinel, .sentinel, .sentinel], laidTests := true, laidLooks := .later }
def PageComparesCardSaid : Prop := Claim7.holds Tryd.pinned (.plain (OpenSpec.ofChange pageComparesSpec)) pageComparesCard

/-- THE TIED CARD OF 'ferrylaw05.PageStored'. -/
def pageStoredCard : Claim7 := { stood := { row := pageStoredRow, standIns := [], harness := (true, "05bd069b0321b90bba90200abeaf5a805f90a5d54f8e98fadb9d5b61fd3da958"), looks := true }, kinds := [], alts := [], laidByText := true, laidKinds := [.handle, .sentinel, .sentinel, .sentinel, .sentinel, .sentinel, .sentinel, .sentinel, .sentinel, .sentinel, .sentinel, .sentinel, .sentinel, .sentinel, .sentinel, .sentinel, .sentinel, .sentinel, .sentinel, .sentinel, .sentinel], laidTests := true, laidLooks := .later }
def PageStoredCardSaid : Prop := Claim7.holds Tryd.pinned (.plain (OpenSpec.ofChange pageStoredSpec)) pageStoredCard

/-- THE TIED CARD OF 'ferrylaw05.PagePlays'. -/
def pagePlaysCard : Claim7 := { stood := { row := pagePlaysRow, standIns := [], harness := (true, "05bd069b0321b90bba90200abeaf5a805f90a5d54f8e98fadb9d5b61fd3da958"), looks := true }, kinds := [], alts := [], laidByText := true, laidKinds := [.handle, .sentinel, .sentinel, .sentinel, .sentinel, .sentinel, .sentinel, .sentinel, .sentinel, .sentinel, .sentinel, .sentinel, .sentinel, .sentinel, .sentinel, .sentinel, .sentinel, .sentinel, .sentinel, .sentinel, .sentinel], laidTests := true, laidLooks := .later }
def PagePlaysCardSaid : Prop := Claim7.holds Tryd.pinned (.plain (OpenSpec.ofChange pagePlaysSpec)) pagePlaysCard

/-- THE TIED CARD OF 'ferrylaw05.PageApart'. -/
def pageApartCard : Claim7 := { stood := { row := pageApartRow, standIns := [], harness := (true, "05bd069b0321b90bba90200abeaf5a805f90a5d54f8e98fadb9d5b61fd3da958"), looks := true }, kinds := [], alts := [], laidByText := true, laidKinds := [.handle, .sentinel, .sentinel, .sentinel, .sentinel, .sentinel, .sentinel, .sentinel, .sentinel, .sentinel, .sentinel, .sentinel, .sentinel, .sentinel, .sentinel, .sentinel, .sentinel, .sentinel, .sentinel, .sentinel, .sentinel], laidTests := true, laidLooks := .later }
def PageApartCardSaid : Prop := Claim7.holds Tryd.pinned (.plain (OpenSpec.ofChange pageApartSpec)) pageApartCard

/-- THE SECOND FORM's CARD OF 'ferrylaw05.PageSums'. -/
def pageSumsUptoCard : Claim7 := { stood := { row := pageSumsUptoRow, standIns := [], harness := (true, "05bd069b0321b90bba90200abeaf5a805f90a5d54f8e98fadb9d5b61fd3da958"), looks := true }, kinds := [], alts := [], laidByText := true, laidKinds := [.sentinel], laidTests := true, laidLooks := .later }
def PageSumsUptoCardSaid : Prop := Claim7.holds Tryd.pinned (.plain (OpenSpec.upto pageSumsSpec)) pageSumsUptoCard

/-- THE SECOND FORM's CARD OF 'ferrylaw05.PageMarks'. -/
def pageMarksUptoCard : Claim7 := { stood := { row := pageMarksUptoRow, standIns := [], harness := (true, "05bd069b0321b90bba90200abeaf5a805f90a5d54f8e98fadb9d5b61fd3da958"), looks := true }, kinds := [], alts := [], laidByText := true, laidKinds := [.sentinel, .sentinel], laidTests := true, laidLooks := .later }
def PageMarksUptoCardSaid : Prop := Claim7.holds Tryd.pinned (.plain (OpenSpec.upto pageMarksSpec)) pageMarksUptoCard

/-- THE SECOND FORM's CARD OF 'ferrylaw05.PageMakes'. -/
def pageMakesUptoCard : Claim7 := { stood := { row := pageMakesUptoRow, standIns := [], harness := (true, "05bd069b0321b90bba90200abeaf5a805f90a5d54f8e98fadb9d5b61fd3da958"), looks := true }, kinds := [], alts := [], laidByText := true, laidKinds := [.handle, .sentinel, .sentinel, .sentinel, .sentinel, .sentinel, .sentinel, .sentinel, .sentinel, .sentinel, .sentinel, .sentinel, .sentinel, .sentinel, .sentinel, .sentinel, .sentinel, .sentinel, .sentinel, .sentinel, .sentinel], laidTests := true, laidLooks := .later }
def PageMakesUptoCardSaid : Prop := Claim7.holds Tryd.pinned (.plain (OpenSpec.upto pageMakesSpec)) pageMakesUptoCard

/-- THE SECOND FORM's CARD OF 'ferrylaw05.PageCompares'. -/
def pageComparesUptoCard : Claim7 := { stood := { row := pageComparesUptoRow, standIns := [], harness := (true, "05bd069b0321b90bba90200abeaf5a805f90a5d54f8e98fadb9d5b61fd3da958"), looks := true }, kinds := [], alts := [], laidByText := true, laidKinds := [.handle, .sentinel, .sentinel, .sentinel, .sentinel, .sentinel, .sentinel, .sentinel, .sentinel, .sentinel, .sentinel, .sentinel, .sentinel, .sentinel, .sentinel, .sentinel, .sentinel, .sentinel, .sentinel, .sentinel, .sentinel], laidTests := true, laidLooks := .later }
def PageComparesUptoCardSaid : Prop := Claim7.holds Tryd.pinned (.plain (OpenSpec.upto pageComparesSpec)) pageComparesUptoCard

/-- THE SECOND FORM's CARD OF 'ferrylaw05.PageStored'. -/
def pageStoredUptoCard : Claim7 := { stood := { row := pageStoredUptoRow, standIns := [], harness := (true, "05bd069b0321b90bba90200abeaf5a805f90a5d54f8e98fadb9d5b61fd3da958"), looks := true }, kinds := [], alts := [], laidByText := true, laidKinds := [.handle, .sentinel, .sentinel, .sentinel, .sentinel, .sentinel, .sentinel, .sentinel, .sentinel, .sentinel, .sentinel, .sentinel, .sentinel, .sentinel, .sentinel, .sentinel, .sentinel, .sentinel, .sentinel, .sentinel, .sentinel], laidTests := true, laidLooks := .later }
def PageStoredUptoCardSaid : Prop := Claim7.holds Tryd.pinned (.plain (OpenSpec.upto pageStoredSpec)) pageStoredUptoCard

/-- THE SECOND FORM's CARD OF 'ferrylaw05.PagePlays'. -/
def pagePlaysUptoCard : Claim7 := { stood := { row := pagePlaysUptoRow, standIns := [], harness := (true, "05bd069b0321b90bba90200abeaf5a805f90a5d54f8e98fadb9d5b61fd3da958"), looks := true }, kinds := [], alts := [], laidByText := true, laidKinds := [.handle, .sentinel, .sentinel, .sentinel, .sentinel, .sentinel, .sentinel, .sentinel, .sentinel, .sentinel, .sentinel, .sentinel, .sentinel, .sentinel, .sentinel, .sentinel, .sentinel, .sentinel, .sentinel, .sentinel, .sentinel], laidTests := true, laidLooks := .later }
def PagePlaysUptoCardSaid : Prop := Claim7.holds Tryd.pinned (.plain (OpenSpec.upto pagePlaysSpec)) pagePlaysUptoCard

/-- THE SECOND FORM's CARD OF 'ferrylaw05.PageApart'. -/
def pageApartUptoCard : Claim7 := { stood := { row := pageApartUptoRow, standIns := [], harness := (true, "05bd069b0321b90bba90200abeaf5a805f90a5d54f8e98fadb9d5b61fd3da958"), looks := true }, kinds := [], alts := [], laidByText := true, laidKinds := [.handle, .sentinel, .sentinel, .sentinel, .sentinel, .sentinel, .sentinel, .sentinel, .sentinel, .sentinel, .sentinel, .sentinel, .sentinel, .sentinel, .sentinel, .sentinel, .sentinel, .sentinel, .sentinel, .sentinel, .sentinel], laidTests := true, laidLooks := .later }
def PageApartUptoCardSaid : Prop := Claim7.holds Tryd.pinned (.plain (OpenSpec.upto pageApartSpec)) pageApartUptoCard
end Rows
end Go.Proofs.YtkkclkmiaenipaaDoor
