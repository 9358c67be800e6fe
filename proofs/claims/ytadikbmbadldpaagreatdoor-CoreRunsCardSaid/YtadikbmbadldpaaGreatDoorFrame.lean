
/- What the proofs of the rows share. -/
import Derived.Test.YtadikbmbadldpaaGreatDoorRows
import Derived.Test.YtadikbmbadldpaaGreatDoorBase
import Derived.ProofKit
import Derived.OpenShut
import Derived.ShutString
import Derived.ChangeOld
import Derived.SizedLaws
namespace Go.Proofs.YtadikbmbadldpaaGreatDoor
open Go Go.RowKit Go.ChangeShapes Go.WideShapes Go.ChangeAt
open Go.ChangeMaps (open_string shut_string)
set_option linter.unusedVariables false

theorem own : ownKnob Tryz.prog.godebug = none := by kernel_rfl
theorem laidOut : laidOutB Tryz.prog = true := by kernel_rfl
theorem u32_of {x : Int} (h : (Lit.int .u32 x).wf = true) : ∃ v : BitVec 32, x = (v.toNat : Int) := by
  have hb := bounds_u32 h
  exact ⟨BitVec.ofInt 32 x, by rw [BitVec.toNat_ofInt]; omega⟩
theorem u8_of {x : Int} (h : (Lit.int .u8 x).wf = true) : ∃ v : BitVec 8, x = (v.toNat : Int) := by
  have hb := bounds_u8 h
  exact ⟨BitVec.ofInt 8 x, by rw [BitVec.toNat_ofInt]; omega⟩
end Go.Proofs.YtadikbmbadldpaaGreatDoor
