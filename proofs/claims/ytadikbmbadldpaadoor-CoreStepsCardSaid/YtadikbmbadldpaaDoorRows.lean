/-
  NARROWER THAN 'FOR EVERY INPUT', by the rows' own cells (each row's printed sentence says how): CoreFetches: laid · CoreSplits: laid · CoreMarks: laid · CoreSteps: laid · CoreGuards: laid · CoreWalks: laid · CoreKeeps: laid.
  DERIVED. THE GIVEN ROWS OF THIS SEAT. 7 by the template 'for every input the law returns true; each argument reads behind the call as it read before'; 0 by the template 'total and deterministic' (their statements: YtadikbmbadldpaaDoorTotals.lean).
  GIVEN WITH THE SEED: the statements are not yours to turn. If you find one false, say at which input.
  Laid BY PROGRAM, IN A SANDBOX (cutbox-rows.mjs): the forced cells as the released guide's own fill.sh prints them over the translation 2a0fd3265ee3e3af… (all of the seat's roots in one cut). By AI agents, Wed Nov 11 2026. No macro, syntax, notation, axiom, sorry.
-/
import Derived.Test.YtadikbmbadldpaaDoorChecked
import GoSem.Claim
import GoSem.ClaimJoined
import GoSem.ClaimMapViews
import Derived.JoinedTies
import Derived.KernelRfl
namespace Go.Proofs.YtadikbmbadldpaaDoor
/- THE CELL 'sum', in the pinned program and in every row, IS THE sha256 OF THE DUMP (.gsa) THAT YtadikbmbadldpaaDoorProg.lean LOADS. Nothing in Lean hashes anything: it is a label: what it is worth is what the hold of that sum in a sandbox is worth. -/
noncomputable def Tryd.pinned : Pinned := { name := "ytadikbmbadldpaadoor", sum := "2a0fd3265ee3e3afbef39c4f2b8bdb2e58fca75affb3a6cc04031aa4c4be2116", checked := Tryd.checked }
namespace Rows
def none {H : Type} : Left H := { results := [], args := [] }

/- WHAT THE LISTED PACKAGE-LEVEL VARIABLES READ AS WHEN THE CALL BEGINS. Each datum BY PROGRAM (the guide's laid-datum.mjs) off the statement by which the dump's own 'gosem.cut.vars' lays the variable. In a bare row this is a premise. The card (YtadikbmbadldpaaDoorCards.lean) ties it to the program's text. -/
def laid_ferry_api_ErrRange {H : Type} : DataW H := .iface "*errors.errorString" (.ptr (.agg [.lit (.string [97, 32, 110, 117, 109, 98, 101, 114, 32, 111, 117, 116, 32, 111, 102, 32, 105, 116, 115, 32, 114, 97, 110, 103, 101])]))
def laid_ferry_api_ErrKind {H : Type} : DataW H := .iface "*errors.errorString" (.ptr (.agg [.lit (.string [110, 111, 32, 115, 117, 99, 104, 32, 107, 105, 110, 100])]))
def laid_ferry_api_ErrArg {H : Type} : DataW H := .iface "*errors.errorString" (.ptr (.agg [.lit (.string [97, 32, 119, 114, 111, 110, 103, 32, 97, 114, 103, 117, 109, 101, 110, 116])]))
def laid_unicode_White_Space {H : Type} : DataW H := .ptr (.agg [.slice [.agg [.lit (.int .u16 9), .lit (.int .u16 13), .lit (.int .u16 1)], .agg [.lit (.int .u16 32), .lit (.int .u16 133), .lit (.int .u16 101)], .agg [.lit (.int .u16 160), .lit (.int .u16 5760), .lit (.int .u16 5600)], .agg [.lit (.int .u16 8192), .lit (.int .u16 8202), .lit (.int .u16 1)], .agg [.lit (.int .u16 8232), .lit (.int .u16 8233), .lit (.int .u16 1)], .agg [.lit (.int .u16 8239), .lit (.int .u16 8287), .lit (.int .u16 48)], .agg [.lit (.int .u16 12288), .lit (.int .u16 12288), .lit (.int .u16 1)]] [], .nil, .lit (.int .i64 2)])
def laid_strings_asciiSpace {H : Type} : DataW H := .agg [.lit (.int .u8 0), .lit (.int .u8 0), .lit (.int .u8 0), .lit (.int .u8 0), .lit (.int .u8 0), .lit (.int .u8 0), .lit (.int .u8 0), .lit (.int .u8 0), .lit (.int .u8 0), .lit (.int .u8 1), .lit (.int .u8 1), .lit (.int .u8 1), .lit (.int .u8 1), .lit (.int .u8 1), .lit (.int .u8 0), .lit (.int .u8 0), .lit (.int .u8 0), .lit (.int .u8 0), .lit (.int .u8 0), .lit (.int .u8 0), .lit (.int .u8 0), .lit (.int .u8 0), .lit (.int .u8 0), .lit (.int .u8 0), .lit (.int .u8 0), .lit (.int .u8 0), .lit (.int .u8 0), .lit (.int .u8 0), .lit (.int .u8 0), .lit (.int .u8 0), .lit (.int .u8 0), .lit (.int .u8 0), .lit (.int .u8 1), .lit (.int .u8 0), .lit (.int .u8 0), .lit (.int .u8 0), .lit (.int .u8 0), .lit (.int .u8 0), .lit (.int .u8 0), .lit (.int .u8 0), .lit (.int .u8 0), .lit (.int .u8 0), .lit (.int .u8 0), .lit (.int .u8 0), .lit (.int .u8 0), .lit (.int .u8 0), .lit (.int .u8 0), .lit (.int .u8 0), .lit (.int .u8 0), .lit (.int .u8 0), .lit (.int .u8 0), .lit (.int .u8 0), .lit (.int .u8 0), .lit (.int .u8 0), .lit (.int .u8 0), .lit (.int .u8 0), .lit (.int .u8 0), .lit (.int .u8 0), .lit (.int .u8 0), .lit (.int .u8 0), .lit (.int .u8 0), .lit (.int .u8 0), .lit (.int .u8 0), .lit (.int .u8 0), .lit (.int .u8 0), .lit (.int .u8 0), .lit (.int .u8 0), .lit (.int .u8 0), .lit (.int .u8 0), .lit (.int .u8 0), .lit (.int .u8 0), .lit (.int .u8 0), .lit (.int .u8 0), .lit (.int .u8 0), .lit (.int .u8 0), .lit (.int .u8 0), .lit (.int .u8 0), .lit (.int .u8 0), .lit (.int .u8 0), .lit (.int .u8 0), .lit (.int .u8 0), .lit (.int .u8 0), .lit (.int .u8 0), .lit (.int .u8 0), .lit (.int .u8 0), .lit (.int .u8 0), .lit (.int .u8 0), .lit (.int .u8 0), .lit (.int .u8 0), .lit (.int .u8 0), .lit (.int .u8 0), .lit (.int .u8 0), .lit (.int .u8 0), .lit (.int .u8 0), .lit (.int .u8 0), .lit (.int .u8 0), .lit (.int .u8 0), .lit (.int .u8 0), .lit (.int .u8 0), .lit (.int .u8 0), .lit (.int .u8 0), .lit (.int .u8 0), .lit (.int .u8 0), .lit (.int .u8 0), .lit (.int .u8 0), .lit (.int .u8 0), .lit (.int .u8 0), .lit (.int .u8 0), .lit (.int .u8 0), .lit (.int .u8 0), .lit (.int .u8 0), .lit (.int .u8 0), .lit (.int .u8 0), .lit (.int .u8 0), .lit (.int .u8 0), .lit (.int .u8 0), .lit (.int .u8 0), .lit (.int .u8 0), .lit (.int .u8 0), .lit (.int .u8 0), .lit (.int .u8 0), .lit (.int .u8 0), .lit (.int .u8 0), .lit (.int .u8 0), .lit (.int .u8 0), .lit (.int .u8 0), .lit (.int .u8 0), .lit (.int .u8 0), .lit (.int .u8 0), .lit (.int .u8 0), .lit (.int .u8 0), .lit (.int .u8 0), .lit (.int .u8 0), .lit (.int .u8 0), .lit (.int .u8 0), .lit (.int .u8 0), .lit (.int .u8 0), .lit (.int .u8 0), .lit (.int .u8 0), .lit (.int .u8 0), .lit (.int .u8 0), .lit (.int .u8 0), .lit (.int .u8 0), .lit (.int .u8 0), .lit (.int .u8 0), .lit (.int .u8 0), .lit (.int .u8 0), .lit (.int .u8 0), .lit (.int .u8 0), .lit (.int .u8 0), .lit (.int .u8 0), .lit (.int .u8 0), .lit (.int .u8 0), .lit (.int .u8 0), .lit (.int .u8 0), .lit (.int .u8 0), .lit (.int .u8 0), .lit (.int .u8 0), .lit (.int .u8 0), .lit (.int .u8 0), .lit (.int .u8 0), .lit (.int .u8 0), .lit (.int .u8 0), .lit (.int .u8 0), .lit (.int .u8 0), .lit (.int .u8 0), .lit (.int .u8 0), .lit (.int .u8 0), .lit (.int .u8 0), .lit (.int .u8 0), .lit (.int .u8 0), .lit (.int .u8 0), .lit (.int .u8 0), .lit (.int .u8 0), .lit (.int .u8 0), .lit (.int .u8 0), .lit (.int .u8 0), .lit (.int .u8 0), .lit (.int .u8 0), .lit (.int .u8 0), .lit (.int .u8 0), .lit (.int .u8 0), .lit (.int .u8 0), .lit (.int .u8 0), .lit (.int .u8 0), .lit (.int .u8 0), .lit (.int .u8 0), .lit (.int .u8 0), .lit (.int .u8 0), .lit (.int .u8 0), .lit (.int .u8 0), .lit (.int .u8 0), .lit (.int .u8 0), .lit (.int .u8 0), .lit (.int .u8 0), .lit (.int .u8 0), .lit (.int .u8 0), .lit (.int .u8 0), .lit (.int .u8 0), .lit (.int .u8 0), .lit (.int .u8 0), .lit (.int .u8 0), .lit (.int .u8 0), .lit (.int .u8 0), .lit (.int .u8 0), .lit (.int .u8 0), .lit (.int .u8 0), .lit (.int .u8 0), .lit (.int .u8 0), .lit (.int .u8 0), .lit (.int .u8 0), .lit (.int .u8 0), .lit (.int .u8 0), .lit (.int .u8 0), .lit (.int .u8 0), .lit (.int .u8 0), .lit (.int .u8 0), .lit (.int .u8 0), .lit (.int .u8 0), .lit (.int .u8 0), .lit (.int .u8 0), .lit (.int .u8 0), .lit (.int .u8 0), .lit (.int .u8 0), .lit (.int .u8 0), .lit (.int .u8 0), .lit (.int .u8 0), .lit (.int .u8 0), .lit (.int .u8 0), .lit (.int .u8 0), .lit (.int .u8 0), .lit (.int .u8 0), .lit (.int .u8 0), .lit (.int .u8 0), .lit (.int .u8 0), .lit (.int .u8 0), .lit (.int .u8 0), .lit (.int .u8 0), .lit (.int .u8 0), .lit (.int .u8 0), .lit (.int .u8 0), .lit (.int .u8 0), .lit (.int .u8 0), .lit (.int .u8 0), .lit (.int .u8 0), .lit (.int .u8 0), .lit (.int .u8 0), .lit (.int .u8 0), .lit (.int .u8 0), .lit (.int .u8 0), .lit (.int .u8 0), .lit (.int .u8 0), .lit (.int .u8 0), .lit (.int .u8 0), .lit (.int .u8 0), .lit (.int .u8 0)]
def laid_ferry_api_ErrDivide {H : Type} : DataW H := .iface "*errors.errorString" (.ptr (.agg [.lit (.string [100, 105, 118, 105, 115, 105, 111, 110, 32, 98, 121, 32, 122, 101, 114, 111])]))

/-- 'ferrylaw06.CoreFetches': WHATEVER THE INPUT: true; the input reads as it did. -/
def coreFetchesSpec : ChangeSpec := { name := "coreFetches", fn := fun _ => fun
  | [d1, d2] => { results := [.lit (.bool true)], args := [d1, d2] }
  | _ => none }
def coreFetchesRow : OpenClaim := { program := "ytadikbmbadldpaadoor", sum := "2a0fd3265ee3e3afbef39c4f2b8bdb2e58fca75affb3a6cc04031aa4c4be2116", func := "ferry/ferrylaw06.CoreFetches", spec := "coreFetches", unfollowed := true, recurses := true, named := ["ferry/api.ErrArg", "ferry/api.ErrKind", "ferry/api.ErrRange", "strings.asciiSpace", "unicode.White_Space"], apart := false, laid := [("ferry/api.ErrRange", laid_ferry_api_ErrRange), ("ferry/api.ErrKind", laid_ferry_api_ErrKind), ("ferry/api.ErrArg", laid_ferry_api_ErrArg), ("unicode.White_Space", laid_unicode_White_Space), ("strings.asciiSpace", laid_strings_asciiSpace)] }
def CoreFetchesSaid : Prop := coreFetchesRow.holds Tryd.pinned (OpenSpec.ofChange coreFetchesSpec)

/-- ITS FALSE NEIGHBOUR: 'it returns false'. Refute it at one input. -/
def coreFetchesWrong : ChangeSpec := { name := "coreFetches", fn := fun _ => fun
  | [d1, d2] => { results := [.lit (.bool false)], args := [d1, d2] }
  | _ => none }
def CoreFetchesWrongFalsely : Prop := coreFetchesRow.holds Tryd.pinned (OpenSpec.ofChange coreFetchesWrong)

/-- 'ferrylaw06.CoreSplits': WHATEVER THE INPUT: true; the input reads as it did. -/
def coreSplitsSpec : ChangeSpec := { name := "coreSplits", fn := fun _ => fun
  | [d1, d2, d3] => { results := [.lit (.bool true)], args := [d1, d2, d3] }
  | _ => none }
def coreSplitsRow : OpenClaim := { program := "ytadikbmbadldpaadoor", sum := "2a0fd3265ee3e3afbef39c4f2b8bdb2e58fca75affb3a6cc04031aa4c4be2116", func := "ferry/ferrylaw06.CoreSplits", spec := "coreSplits", unfollowed := true, recurses := true, named := ["ferry/api.ErrArg", "ferry/api.ErrKind", "ferry/api.ErrRange", "strings.asciiSpace", "unicode.White_Space", "ferry/api.ErrDivide"], apart := false, laid := [("ferry/api.ErrRange", laid_ferry_api_ErrRange), ("ferry/api.ErrKind", laid_ferry_api_ErrKind), ("ferry/api.ErrArg", laid_ferry_api_ErrArg), ("ferry/api.ErrDivide", laid_ferry_api_ErrDivide), ("unicode.White_Space", laid_unicode_White_Space), ("strings.asciiSpace", laid_strings_asciiSpace)] }
def CoreSplitsSaid : Prop := coreSplitsRow.holds Tryd.pinned (OpenSpec.ofChange coreSplitsSpec)

/-- ITS FALSE NEIGHBOUR: 'it returns false'. Refute it at one input. -/
def coreSplitsWrong : ChangeSpec := { name := "coreSplits", fn := fun _ => fun
  | [d1, d2, d3] => { results := [.lit (.bool false)], args := [d1, d2, d3] }
  | _ => none }
def CoreSplitsWrongFalsely : Prop := coreSplitsRow.holds Tryd.pinned (OpenSpec.ofChange coreSplitsWrong)

/-- 'ferrylaw06.CoreMarks': WHATEVER THE INPUT: true; the input reads as it did. -/
def coreMarksSpec : ChangeSpec := { name := "coreMarks", fn := fun _ => fun
  | [d1, d2, d3] => { results := [.lit (.bool true)], args := [d1, d2, d3] }
  | _ => none }
def coreMarksRow : OpenClaim := { program := "ytadikbmbadldpaadoor", sum := "2a0fd3265ee3e3afbef39c4f2b8bdb2e58fca75affb3a6cc04031aa4c4be2116", func := "ferry/ferrylaw06.CoreMarks", spec := "coreMarks", unfollowed := true, recurses := true, named := ["ferry/api.ErrArg", "ferry/api.ErrKind", "ferry/api.ErrRange", "strings.asciiSpace", "unicode.White_Space", "ferry/api.ErrDivide"], apart := false, laid := [("ferry/api.ErrRange", laid_ferry_api_ErrRange), ("ferry/api.ErrKind", laid_ferry_api_ErrKind), ("ferry/api.ErrArg", laid_ferry_api_ErrArg), ("ferry/api.ErrDivide", laid_ferry_api_ErrDivide), ("unicode.White_Space", laid_unicode_White_Space), ("strings.asciiSpace", laid_strings_asciiSpace)] }
def CoreMarksSaid : Prop := coreMarksRow.holds Tryd.pinned (OpenSpec.ofChange coreMarksSpec)

/-- ITS FALSE NEIGHBOUR: 'it returns false'. Refute it at one input. -/
def coreMarksWrong : ChangeSpec := { name := "coreMarks", fn := fun _ => fun
  | [d1, d2, d3] => { results := [.lit (.bool false)], args := [d1, d2, d3] }
  | _ => none }
def CoreMarksWrongFalsely : Prop := coreMarksRow.holds Tryd.pinned (OpenSpec.ofChange coreMarksWrong)

/-- 'ferrylaw06.CoreSteps': WHATEVER THE INPUT: true; the input reads as it did. -/
def coreStepsSpec : ChangeSpec := { name := "coreSteps", fn := fun _ => fun
  | [d1, d2] => { results := [.lit (.bool true)], args := [d1, d2] }
  | _ => none }
def coreStepsRow : OpenClaim := { program := "ytadikbmbadldpaadoor", sum := "2a0fd3265ee3e3afbef39c4f2b8bdb2e58fca75affb3a6cc04031aa4c4be2116", func := "ferry/ferrylaw06.CoreSteps", spec := "coreSteps", unfollowed := true, recurses := true, named := ["ferry/api.ErrArg", "ferry/api.ErrKind", "ferry/api.ErrRange", "strings.asciiSpace", "unicode.White_Space", "ferry/api.ErrDivide"], apart := false, laid := [("ferry/api.ErrRange", laid_ferry_api_ErrRange), ("ferry/api.ErrKind", laid_ferry_api_ErrKind), ("ferry/api.ErrArg", laid_ferry_api_ErrArg), ("ferry/api.ErrDivide", laid_ferry_api_ErrDivide), ("unicode.White_Space", laid_unicode_White_Space), ("strings.asciiSpace", laid_strings_asciiSpace)] }
def CoreStepsSaid : Prop := coreStepsRow.holds Tryd.pinned (OpenSpec.ofChange coreStepsSpec)

/-- ITS FALSE NEIGHBOUR: 'it returns false'. Refute it at one input. -/
def coreStepsWrong : ChangeSpec := { name := "coreSteps", fn := fun _ => fun
  | [d1, d2] => { results := [.lit (.bool false)], args := [d1, d2] }
  | _ => none }
def CoreStepsWrongFalsely : Prop := coreStepsRow.holds Tryd.pinned (OpenSpec.ofChange coreStepsWrong)

/-- 'ferrylaw06.CoreGuards': WHATEVER THE INPUT: true; the input reads as it did. -/
def coreGuardsSpec : ChangeSpec := { name := "coreGuards", fn := fun _ => fun
  | [d1, d2, d3] => { results := [.lit (.bool true)], args := [d1, d2, d3] }
  | _ => none }
def coreGuardsRow : OpenClaim := { program := "ytadikbmbadldpaadoor", sum := "2a0fd3265ee3e3afbef39c4f2b8bdb2e58fca75affb3a6cc04031aa4c4be2116", func := "ferry/ferrylaw06.CoreGuards", spec := "coreGuards", unfollowed := true, recurses := true, named := ["ferry/api.ErrArg", "ferry/api.ErrKind", "ferry/api.ErrRange", "strings.asciiSpace", "unicode.White_Space", "ferry/api.ErrDivide"], apart := false, laid := [("ferry/api.ErrRange", laid_ferry_api_ErrRange), ("ferry/api.ErrKind", laid_ferry_api_ErrKind), ("ferry/api.ErrArg", laid_ferry_api_ErrArg), ("ferry/api.ErrDivide", laid_ferry_api_ErrDivide), ("unicode.White_Space", laid_unicode_White_Space), ("strings.asciiSpace", laid_strings_asciiSpace)] }
def CoreGuardsSaid : Prop := coreGuardsRow.holds Tryd.pinned (OpenSpec.ofChange coreGuardsSpec)

/-- ITS FALSE NEIGHBOUR: 'it returns false'. Refute it at one input. -/
def coreGuardsWrong : ChangeSpec := { name := "coreGuards", fn := fun _ => fun
  | [d1, d2, d3] => { results := [.lit (.bool false)], args := [d1, d2, d3] }
  | _ => none }
def CoreGuardsWrongFalsely : Prop := coreGuardsRow.holds Tryd.pinned (OpenSpec.ofChange coreGuardsWrong)

/-- 'ferrylaw06.CoreWalks': WHATEVER THE INPUT: true; the input reads as it did. -/
def coreWalksSpec : ChangeSpec := { name := "coreWalks", fn := fun _ => fun
  | [d1, d2, d3] => { results := [.lit (.bool true)], args := [d1, d2, d3] }
  | _ => none }
def coreWalksRow : OpenClaim := { program := "ytadikbmbadldpaadoor", sum := "2a0fd3265ee3e3afbef39c4f2b8bdb2e58fca75affb3a6cc04031aa4c4be2116", func := "ferry/ferrylaw06.CoreWalks", spec := "coreWalks", unfollowed := true, recurses := true, named := ["ferry/api.ErrArg", "ferry/api.ErrKind", "ferry/api.ErrRange", "strings.asciiSpace", "unicode.White_Space", "ferry/api.ErrDivide"], apart := false, laid := [("ferry/api.ErrRange", laid_ferry_api_ErrRange), ("ferry/api.ErrKind", laid_ferry_api_ErrKind), ("ferry/api.ErrArg", laid_ferry_api_ErrArg), ("ferry/api.ErrDivide", laid_ferry_api_ErrDivide), ("unicode.White_Space", laid_unicode_White_Space), ("strings.asciiSpace", laid_strings_asciiSpace)] }
def CoreWalksSaid : Prop := coreWalksRow.holds Tryd.pinned (OpenSpec.ofChange coreWalksSpec)

/-- ITS FALSE NEIGHBOUR: 'it returns false'. Refute it at one input. -/
def coreWalksWrong : ChangeSpec := { name := "coreWalks", fn := fun _ => fun
  | [d1, d2, d3] => { results := [.lit (.bool false)], args := [d1, d2, d3] }
  | _ => none }
def CoreWalksWrongFalsely : Prop := coreWalksRow.holds Tryd.pinned (OpenSpec.ofChange coreWalksWrong)

/-- 'ferrylaw06.CoreKeeps': WHATEVER THE INPUT: true; the input reads as it did. -/
def coreKeepsSpec : ChangeSpec := { name := "coreKeeps", fn := fun _ => fun
  | [d1, d2, d3] => { results := [.lit (.bool true)], args := [d1, d2, d3] }
  | _ => none }
def coreKeepsRow : OpenClaim := { program := "ytadikbmbadldpaadoor", sum := "2a0fd3265ee3e3afbef39c4f2b8bdb2e58fca75affb3a6cc04031aa4c4be2116", func := "ferry/ferrylaw06.CoreKeeps", spec := "coreKeeps", unfollowed := true, recurses := true, named := ["ferry/api.ErrArg", "ferry/api.ErrKind", "ferry/api.ErrRange", "strings.asciiSpace", "unicode.White_Space", "ferry/api.ErrDivide"], apart := false, laid := [("ferry/api.ErrRange", laid_ferry_api_ErrRange), ("ferry/api.ErrKind", laid_ferry_api_ErrKind), ("ferry/api.ErrArg", laid_ferry_api_ErrArg), ("ferry/api.ErrDivide", laid_ferry_api_ErrDivide), ("unicode.White_Space", laid_unicode_White_Space), ("strings.asciiSpace", laid_strings_asciiSpace)] }
def CoreKeepsSaid : Prop := coreKeepsRow.holds Tryd.pinned (OpenSpec.ofChange coreKeepsSpec)

/-- ITS FALSE NEIGHBOUR: 'it returns false'. Refute it at one input. -/
def coreKeepsWrong : ChangeSpec := { name := "coreKeeps", fn := fun _ => fun
  | [d1, d2, d3] => { results := [.lit (.bool false)], args := [d1, d2, d3] }
  | _ => none }
def CoreKeepsWrongFalsely : Prop := coreKeepsRow.holds Tryd.pinned (OpenSpec.ofChange coreKeepsWrong)

/- THE SECOND FORM. 'bulk': how many values and letters a reading holds, each counted each time it is reached (what is shared counts as often as it is met; a slice's spare places count too). A statement '..UptoSaid' is the law's where the arguments, and the package variables that the reading takes, are together of bulk at most 1048576: NARROWER than '..Said'. Prove '..Said' where nothing that the law and all that it calls make is longer than what came in: it says more and counts as full. Else prove '..UptoSaid'. A law counts once. -/
mutual
def uptoBulk {H : Type} : DataW H → Nat
  | .lit (.string bytes) => bytes.length + 1
  | .lit _ => 1
  | .nil => 1
  | .ptr d => uptoBulk d + 1
  | .slice elems spare => uptoBulkAll elems + uptoBulkAll spare + 1
  | .agg parts => uptoBulkAll parts + 1
  | .iface _ d => uptoBulk d + 1
  | .map entries => uptoBulkEntries entries + 1
  | .held _ => 1
def uptoBulkAll {H : Type} : List (DataW H) → Nat
  | [] => 0
  | d :: r => uptoBulk d + uptoBulkAll r
def uptoBulkEntries {H : Type} : List (Lit × DataW H) → Nat
  | [] => 0
  | x :: r => uptoBulkEntry x + uptoBulkEntries r
def uptoBulkEntry {H : Type} : Lit × DataW H → Nat
  | (.string bytes, d) => bytes.length + uptoBulk d + 1
  | (_, d) => uptoBulk d + 1
 end
def uptoSmall : (H : Type) → List (DataW H) → Bool := fun _ ds => decide (uptoBulkAll ds ≤ 1048576)
def OpenSpec.upto (s : _root_.Go.ChangeSpec) : _root_.Go.OpenSpec := { _root_.Go.OpenSpec.ofChange s with cond := some uptoSmall }

/-- 'ferrylaw06.CoreFetches', WHERE WHAT IT READS IS OF BULK AT MOST 1048576: true; the input reads as it did. -/
def coreFetchesUptoRow : OpenClaim := { program := "ytadikbmbadldpaadoor", sum := "2a0fd3265ee3e3afbef39c4f2b8bdb2e58fca75affb3a6cc04031aa4c4be2116", func := "ferry/ferrylaw06.CoreFetches", spec := "coreFetches", unfollowed := true, recurses := true, named := ["ferry/api.ErrArg", "ferry/api.ErrKind", "ferry/api.ErrRange", "strings.asciiSpace", "unicode.White_Space"], apart := false, laid := [("ferry/api.ErrRange", laid_ferry_api_ErrRange), ("ferry/api.ErrKind", laid_ferry_api_ErrKind), ("ferry/api.ErrArg", laid_ferry_api_ErrArg), ("unicode.White_Space", laid_unicode_White_Space), ("strings.asciiSpace", laid_strings_asciiSpace)], narrowed := true }
def CoreFetchesUptoSaid : Prop := coreFetchesUptoRow.holds Tryd.pinned (OpenSpec.upto coreFetchesSpec)

/-- 'ferrylaw06.CoreSplits', WHERE WHAT IT READS IS OF BULK AT MOST 1048576: true; the input reads as it did. -/
def coreSplitsUptoRow : OpenClaim := { program := "ytadikbmbadldpaadoor", sum := "2a0fd3265ee3e3afbef39c4f2b8bdb2e58fca75affb3a6cc04031aa4c4be2116", func := "ferry/ferrylaw06.CoreSplits", spec := "coreSplits", unfollowed := true, recurses := true, named := ["ferry/api.ErrArg", "ferry/api.ErrKind", "ferry/api.ErrRange", "strings.asciiSpace", "unicode.White_Space", "ferry/api.ErrDivide"], apart := false, laid := [("ferry/api.ErrRange", laid_ferry_api_ErrRange), ("ferry/api.ErrKind", laid_ferry_api_ErrKind), ("ferry/api.ErrArg", laid_ferry_api_ErrArg), ("ferry/api.ErrDivide", laid_ferry_api_ErrDivide), ("unicode.White_Space", laid_unicode_White_Space), ("strings.asciiSpace", laid_strings_asciiSpace)], narrowed := true }
def CoreSplitsUptoSaid : Prop := coreSplitsUptoRow.holds Tryd.pinned (OpenSpec.upto coreSplitsSpec)

/-- 'ferrylaw06.CoreMarks', WHERE WHAT IT READS IS OF BULK AT MOST 1048576: true; the input reads as it did. -/
def coreMarksUptoRow : OpenClaim := { program := "ytadikbmbadldpaadoor", sum := "2a0fd3265ee3e3afbef39c4f2b8bdb2e58fca75affb3a6cc04031aa4c4be2116", func := "ferry/ferrylaw06.CoreMarks", spec := "coreMarks", unfollowed := true, recurses := true, named := ["ferry/api.ErrArg", "ferry/api.ErrKind", "ferry/api.ErrRange", "strings.asciiSpace", "unicode.White_Space", "ferry/api.ErrDivide"], apart := false, laid := [("ferry/api.ErrRange", laid_ferry_api_ErrRange), ("ferry/api.ErrKind", laid_ferry_api_ErrKind), ("ferry/api.ErrArg", laid_ferry_api_ErrArg), ("ferry/api.ErrDivide", laid_ferry_api_ErrDivide), ("unicode.White_Space", laid_unicode_White_Space), ("strings.asciiSpace", laid_strings_asciiSpace)], narrowed := true }
def CoreMarksUptoSaid : Prop := coreMarksUptoRow.holds Tryd.pinned (OpenSpec.upto coreMarksSpec)

/-- 'ferrylaw06.CoreSteps', WHERE WHAT IT READS IS OF BULK AT MOST 1048576: true; the input reads as it did. -/
def coreStepsUptoRow : OpenClaim := { program := "ytadikbmbadldpaadoor", sum := "2a0fd3265ee3e3afbef39c4f2b8bdb2e58fca75affb3a6cc04031aa4c4be2116", func := "ferry/ferrylaw06.CoreSteps", spec := "coreSteps", unfollowed := true, recurses := true, named := ["ferry/api.ErrArg", "ferry/api.ErrKind", "ferry/api.ErrRange", "strings.asciiSpace", "unicode.White_Space", "ferry/api.ErrDivide"], apart := false, laid := [("ferry/api.ErrRange", laid_ferry_api_ErrRange), ("ferry/api.ErrKind", laid_ferry_api_ErrKind), ("ferry/api.ErrArg", laid_ferry_api_ErrArg), ("ferry/api.ErrDivide", laid_ferry_api_ErrDivide), ("unicode.White_Space", laid_unicode_White_Space), ("strings.asciiSpace", laid_strings_asciiSpace)], narrowed := true }
def CoreStepsUptoSaid : Prop := coreStepsUptoRow.holds Tryd.pinned (OpenSpec.upto coreStepsSpec)

/-- 'ferrylaw06.CoreGuards', WHERE WHAT IT READS IS OF BULK AT MOST 1048576: true; the input reads as it did. -/
def coreGuardsUptoRow : OpenClaim := { program := "ytadikbmbadldpaadoor", sum := "2a0fd3265ee3e3afbef39c4f2b8bdb2e58fca75affb3a6cc04031aa4c4be2116", func := "ferry/ferrylaw06.CoreGuards", spec := "coreGuards", unfollowed := true, recurses := true, named := ["ferry/api.ErrArg", "ferry/api.ErrKind", "ferry/api.ErrRange", "strings.asciiSpace", "unicode.White_Space", "ferry/api.ErrDivide"], apart := false, laid := [("ferry/api.ErrRange", laid_ferry_api_ErrRange), ("ferry/api.ErrKind", laid_ferry_api_ErrKind), ("ferry/api.ErrArg", laid_ferry_api_ErrArg), ("ferry/api.ErrDivide", laid_ferry_api_ErrDivide), ("unicode.White_Space", laid_unicode_White_Space), ("strings.asciiSpace", laid_strings_asciiSpace)], narrowed := true }
def CoreGuardsUptoSaid : Prop := coreGuardsUptoRow.holds Tryd.pinned (OpenSpec.upto coreGuardsSpec)

/-- 'ferrylaw06.CoreWalks', WHERE WHAT IT READS IS OF BULK AT MOST 1048576: true; the input reads as it did. -/
def coreWalksUptoRow : OpenClaim := { program := "ytadikbmbadldpaadoor", sum := "2a0fd3265ee3e3afbef39c4f2b8bdb2e58fca75affb3a6cc04031aa4c4be2116", func := "ferry/ferrylaw06.CoreWalks", spec := "coreWalks", unfollowed := true, recurses := true, named := ["ferry/api.ErrArg", "ferry/api.ErrKind", "ferry/api.ErrRange", "strings.asciiSpace", "unicode.White_Space", "ferry/api.ErrDivide"], apart := false, laid := [("ferry/api.ErrRange", laid_ferry_api_ErrRange), ("ferry/api.ErrKind", laid_ferry_api_ErrKind), ("ferry/api.ErrArg", laid_ferry_api_ErrArg), ("ferry/api.ErrDivide", laid_ferry_api_ErrDivide), ("unicode.White_Space", laid_unicode_White_Space), ("strings.asciiSpace", laid_strings_asciiSpace)], narrowed := true }
def CoreWalksUptoSaid : Prop := coreWalksUptoRow.holds Tryd.pinned (OpenSpec.upto coreWalksSpec)

/-- 'ferrylaw06.CoreKeeps', WHERE WHAT IT READS IS OF BULK AT MOST 1048576: true; the input reads as it did. -/
def coreKeepsUptoRow : OpenClaim := { program := "ytadikbmbadldpaadoor", sum := "2a0fd3265ee3e3afbef39c4f2b8bdb2e58fca75affb3a6cc04031aa4c4be2116", func := "ferry/ferrylaw06.CoreKeeps", spec := "coreKeeps", unfollowed := true, recurses := true, named := ["ferry/api.ErrArg", "ferry/api.ErrKind", "ferry/api.ErrRange", "strings.asciiSpace", "unicode.White_Space", "ferry/api.ErrDivide"], apart := false, laid := [("ferry/api.ErrRange", laid_ferry_api_ErrRange), ("ferry/api.ErrKind", laid_ferry_api_ErrKind), ("ferry/api.ErrArg", laid_ferry_api_ErrArg), ("ferry/api.ErrDivide", laid_ferry_api_ErrDivide), ("unicode.White_Space", laid_unicode_White_Space), ("strings.asciiSpace", laid_strings_asciiSpace)], narrowed := true }
def CoreKeepsUptoSaid : Prop := coreKeepsUptoRow.holds Tryd.pinned (OpenSpec.upto coreKeepsSpec)

end Rows
end Go.Proofs.YtadikbmbadldpaaDoor
