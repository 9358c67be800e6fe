/-
  DERIVED. GIVEN WITH THE SEED: THE PROGRAM's TIES (one call each: nine closed facts by the kernel) AND EACH ROW's TIE, after the 31st guide's Derived/Test/Toyas{Tie, Card}.lean. No idea stands in it: it is a product of the set-up. Laid BY PROGRAM, IN A SANDBOX (cutbox-door.mjs). By AI agents, Wed Nov 11 2026. No macro, syntax, notation, axiom, sorry.
-/
import Derived.Test.YtkkclkmiaenipaaDoorRows
import Derived.LaidByTextLater
import Derived.SevenTiedAt
import Derived.LaidSub
import Derived.LaidOnce
namespace Go.Proofs.YtkkclkmiaenipaaDoor
open Go
set_option maxRecDepth 100000
theorem seatTie1 : Tryd.prog.laidByTextLater [("errors.errorType", Rows.laid_errors_errorType), ("ferry/api.ErrShort", Rows.laid_ferry_api_ErrShort), ("ferry/api.ErrRest", Rows.laid_ferry_api_ErrRest), ("ferry/api.ErrTag", Rows.laid_ferry_api_ErrTag), ("ferry/api.ErrRange", Rows.laid_ferry_api_ErrRange), ("ferry/api.ErrLength", Rows.laid_ferry_api_ErrLength), ("ferry/api.ErrSum", Rows.laid_ferry_api_ErrSum), ("ferry/api.ErrKind", Rows.laid_ferry_api_ErrKind), ("ferry/api.ErrPlan", Rows.laid_ferry_api_ErrPlan), ("ferry/api.ErrState", Rows.laid_ferry_api_ErrState), ("ferry/api.ErrBase", Rows.laid_ferry_api_ErrBase), ("ferry/api.ErrSize", Rows.laid_ferry_api_ErrSize), ("ferry/api.ErrArg", Rows.laid_ferry_api_ErrArg), ("ferry/api.ErrEnd", Rows.laid_ferry_api_ErrEnd), ("ferry/api.ErrBusy", Rows.laid_ferry_api_ErrBusy), ("ferry/api.ErrDown", Rows.laid_ferry_api_ErrDown), ("ferry/api.ErrLost", Rows.laid_ferry_api_ErrLost), ("ferry/api.ErrNone", Rows.laid_ferry_api_ErrNone), ("ferry/api.ErrText", Rows.laid_ferry_api_ErrText), ("ferry/api.ErrStop", Rows.laid_ferry_api_ErrStop), ("ferry/api.ErrDivide", Rows.laid_ferry_api_ErrDivide)] [.handle, .sentinel, .sentinel, .sentinel, .sentinel, .sentinel, .sentinel, .sentinel, .sentinel, .sentinel, .sentinel, .sentinel, .sentinel, .sentinel, .sentinel, .sentinel, .sentinel, .sentinel, .sentinel, .sentinel, .sentinel] true :=
  Program.laidByTextLater_by_one 396 8 2 (by kernel_rfl) (by kernel_rfl) (by kernel_rfl) (by kernel_rfl) (by kernel_rfl) (by kernel_rfl) (fun _ _ => by kernel_rfl)
theorem noOwnUnsafe : Tryd.pinned.checked.prog.headLifts.contains "ownunsafe" = false := by kernel_rfl
theorem tie : Tryd.prog.laidByTextLater [("ferry/api.ErrArg", Rows.laid_ferry_api_ErrArg)] [.sentinel] true :=
  Program.laidByTextLater.sub seatTie1 ["ferry/api.ErrArg"] (by kernel_rfl) (by kernel_rfl)
theorem pageSums_row_tie : Rows.pageSumsRow.laidByTextAt .later Tryd.pinned [.sentinel] true :=
  OpenClaim.laidByTextAt_later rfl rfl tie noOwnUnsafe
theorem tie2 : Tryd.prog.laidByTextLater [("ferry/api.ErrLength", Rows.laid_ferry_api_ErrLength), ("ferry/api.ErrArg", Rows.laid_ferry_api_ErrArg)] [.sentinel, .sentinel] true :=
  Program.laidByTextLater.sub seatTie1 ["ferry/api.ErrLength", "ferry/api.ErrArg"] (by kernel_rfl) (by kernel_rfl)
theorem pageMarks_row_tie : Rows.pageMarksRow.laidByTextAt .later Tryd.pinned [.sentinel, .sentinel] true :=
  OpenClaim.laidByTextAt_later rfl rfl tie2 noOwnUnsafe
theorem tie3 : Tryd.prog.laidByTextLater [("errors.errorType", Rows.laid_errors_errorType), ("ferry/api.ErrShort", Rows.laid_ferry_api_ErrShort), ("ferry/api.ErrRest", Rows.laid_ferry_api_ErrRest), ("ferry/api.ErrTag", Rows.laid_ferry_api_ErrTag), ("ferry/api.ErrRange", Rows.laid_ferry_api_ErrRange), ("ferry/api.ErrLength", Rows.laid_ferry_api_ErrLength), ("ferry/api.ErrSum", Rows.laid_ferry_api_ErrSum), ("ferry/api.ErrKind", Rows.laid_ferry_api_ErrKind), ("ferry/api.ErrPlan", Rows.laid_ferry_api_ErrPlan), ("ferry/api.ErrState", Rows.laid_ferry_api_ErrState), ("ferry/api.ErrBase", Rows.laid_ferry_api_ErrBase), ("ferry/api.ErrSize", Rows.laid_ferry_api_ErrSize), ("ferry/api.ErrArg", Rows.laid_ferry_api_ErrArg), ("ferry/api.ErrEnd", Rows.laid_ferry_api_ErrEnd), ("ferry/api.ErrBusy", Rows.laid_ferry_api_ErrBusy), ("ferry/api.ErrDown", Rows.laid_ferry_api_ErrDown), ("ferry/api.ErrLost", Rows.laid_ferry_api_ErrLost), ("ferry/api.ErrNone", Rows.laid_ferry_api_ErrNone), ("ferry/api.ErrText", Rows.laid_ferry_api_ErrText), ("ferry/api.ErrStop", Rows.laid_ferry_api_ErrStop), ("ferry/api.ErrDivide", Rows.laid_ferry_api_ErrDivide)] [.handle, .sentinel, .sentinel, .sentinel, .sentinel, .sentinel, .sentinel, .sentinel, .sentinel, .sentinel, .sentinel, .sentinel, .sentinel, .sentinel, .sentinel, .sentinel, .sentinel, .sentinel, .sentinel, .sentinel, .sentinel] true :=
  Program.laidByTextLater.sub seatTie1 ["errors.errorType", "ferry/api.ErrShort", "ferry/api.ErrRest", "ferry/api.ErrTag", "ferry/api.ErrRange", "ferry/api.ErrLength", "ferry/api.ErrSum", "ferry/api.ErrKind", "ferry/api.ErrPlan", "ferry/api.ErrState", "ferry/api.ErrBase", "ferry/api.ErrSize", "ferry/api.ErrArg", "ferry/api.ErrEnd", "ferry/api.ErrBusy", "ferry/api.ErrDown", "ferry/api.ErrLost", "ferry/api.ErrNone", "ferry/api.ErrText", "ferry/api.ErrStop", "ferry/api.ErrDivide"] (by kernel_rfl) (by kernel_rfl)
theorem pageMakes_row_tie : Rows.pageMakesRow.laidByTextAt .later Tryd.pinned [.handle, .sentinel, .sentinel, .sentinel, .sentinel, .sentinel, .sentinel, .sentinel, .sentinel, .sentinel, .sentinel, .sentinel, .sentinel, .sentinel, .sentinel, .sentinel, .sentinel, .sentinel, .sentinel, .sentinel, .sentinel] true :=
  OpenClaim.laidByTextAt_later rfl rfl tie3 noOwnUnsafe
theorem pageCompares_row_tie : Rows.pageComparesRow.laidByTextAt .later Tryd.pinned [.handle, .sentinel, .sentinel, .sentinel, .sentinel, .sentinel, .sentinel, .sentinel, .sentinel, .sentinel, .sentinel, .sentinel, .sentinel, .sentinel, .sentinel, .sentinel, .sentinel, .sentinel, .sentinel, .sentinel, .sentinel] true :=
  OpenClaim.laidByTextAt_later rfl rfl tie3 noOwnUnsafe
theorem pageStored_row_tie : Rows.pageStoredRow.laidByTextAt .later Tryd.pinned [.handle, .sentinel, .sentinel, .sentinel, .sentinel, .sentinel, .sentinel, .sentinel, .sentinel, .sentinel, .sentinel, .sentinel, .sentinel, .sentinel, .sentinel, .sentinel, .sentinel, .sentinel, .sentinel, .sentinel, .sentinel] true :=
  OpenClaim.laidByTextAt_later rfl rfl tie3 noOwnUnsafe
theorem pagePlays_row_tie : Rows.pagePlaysRow.laidByTextAt .later Tryd.pinned [.handle, .sentinel, .sentinel, .sentinel, .sentinel, .sentinel, .sentinel, .sentinel, .sentinel, .sentinel, .sentinel, .sentinel, .sentinel, .sentinel, .sentinel, .sentinel, .sentinel, .sentinel, .sentinel, .sentinel, .sentinel] true :=
  OpenClaim.laidByTextAt_later rfl rfl tie3 noOwnUnsafe
theorem pageApart_row_tie : Rows.pageApartRow.laidByTextAt .later Tryd.pinned [.handle, .sentinel, .sentinel, .sentinel, .sentinel, .sentinel, .sentinel, .sentinel, .sentinel, .sentinel, .sentinel, .sentinel, .sentinel, .sentinel, .sentinel, .sentinel, .sentinel, .sentinel, .sentinel, .sentinel, .sentinel] true :=
  OpenClaim.laidByTextAt_later rfl rfl tie3 noOwnUnsafe
theorem pageSumsUpto_row_tie : Rows.pageSumsUptoRow.laidByTextAt .later Tryd.pinned [.sentinel] true :=
  OpenClaim.laidByTextAt_later rfl rfl tie noOwnUnsafe
theorem pageMarksUpto_row_tie : Rows.pageMarksUptoRow.laidByTextAt .later Tryd.pinned [.sentinel, .sentinel] true :=
  OpenClaim.laidByTextAt_later rfl rfl tie2 noOwnUnsafe
theorem pageMakesUpto_row_tie : Rows.pageMakesUptoRow.laidByTextAt .later Tryd.pinned [.handle, .sentinel, .sentinel, .sentinel, .sentinel, .sentinel, .sentinel, .sentinel, .sentinel, .sentinel, .sentinel, .sentinel, .sentinel, .sentinel, .sentinel, .sentinel, .sentinel, .sentinel, .sentinel, .sentinel, .sentinel] true :=
  OpenClaim.laidByTextAt_later rfl rfl tie3 noOwnUnsafe
theorem pageComparesUpto_row_tie : Rows.pageComparesUptoRow.laidByTextAt .later Tryd.pinned [.handle, .sentinel, .sentinel, .sentinel, .sentinel, .sentinel, .sentinel, .sentinel, .sentinel, .sentinel, .sentinel, .sentinel, .sentinel, .sentinel, .sentinel, .sentinel, .sentinel, .sentinel, .sentinel, .sentinel, .sentinel] true :=
  OpenClaim.laidByTextAt_later rfl rfl tie3 noOwnUnsafe
theorem pageStoredUpto_row_tie : Rows.pageStoredUptoRow.laidByTextAt .later Tryd.pinned [.handle, .sentinel, .sentinel, .sentinel, .sentinel, .sentinel, .sentinel, .sentinel, .sentinel, .sentinel, .sentinel, .sentinel, .sentinel, .sentinel, .sentinel, .sentinel, .sentinel, .sentinel, .sentinel, .sentinel, .sentinel] true :=
  OpenClaim.laidByTextAt_later rfl rfl tie3 noOwnUnsafe
theorem pagePlaysUpto_row_tie : Rows.pagePlaysUptoRow.laidByTextAt .later Tryd.pinned [.handle, .sentinel, .sentinel, .sentinel, .sentinel, .sentinel, .sentinel, .sentinel, .sentinel, .sentinel, .sentinel, .sentinel, .sentinel, .sentinel, .sentinel, .sentinel, .sentinel, .sentinel, .sentinel, .sentinel, .sentinel] true :=
  OpenClaim.laidByTextAt_later rfl rfl tie3 noOwnUnsafe
theorem pageApartUpto_row_tie : Rows.pageApartUptoRow.laidByTextAt .later Tryd.pinned [.handle, .sentinel, .sentinel, .sentinel, .sentinel, .sentinel, .sentinel, .sentinel, .sentinel, .sentinel, .sentinel, .sentinel, .sentinel, .sentinel, .sentinel, .sentinel, .sentinel, .sentinel, .sentinel, .sentinel, .sentinel] true :=
  OpenClaim.laidByTextAt_later rfl rfl tie3 noOwnUnsafe
end Go.Proofs.YtkkclkmiaenipaaDoor
