
/- strings.Fields at this dump. -/
import Derived.Test.YtadikbmbadldpaaGreatDoorRowOwn
import Derived.Shelf.Lay
import Derived.Ground.NamesProg
import Derived.Shelf.Strings.Fields
namespace Go.Proofs.YtadikbmbadldpaaGreatDoor
open Go Go.RowKit Go.Shelf
set_option linter.unusedVariables false
shelf_lay Lays.n157 Nm 157 at Tryz as lays157
theorem hi157 : (Tryz.prog.info? (lays157_ren.t 9)).map (fun i => (i.zero, i.size, i.bytes)) = some (some (.string ByteArray.empty), 1, 16) := by kernel_rfl
theorem hg157 : Tryz.prog.globalNamed "strings.asciiSpace" = some (lays157_ren.g 0) := by kernel_rfl
#print axioms hi157
end Go.Proofs.YtadikbmbadldpaaGreatDoor
