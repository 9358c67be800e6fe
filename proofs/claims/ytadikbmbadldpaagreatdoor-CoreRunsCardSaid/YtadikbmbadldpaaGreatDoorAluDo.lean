
/- The laws' own 'do', walked. -/
import Derived.Test.YtadikbmbadldpaaGreatDoorAluWalk1
namespace Go.Proofs.YtadikbmbadldpaaGreatDoor
open Go Go.RowKit
set_option linter.unusedVariables false
namespace Alu
theorem and_add_or (a b : BitVec 32) : (a &&& b) + (a ||| b) = a + b := by
  have e1 : a + (b &&& ~~~a) = a ||| b := by
    rw [BitVec.add_eq_or_of_and_eq_zero]
    · apply BitVec.eq_of_getLsbD_eq
      intro i hi
      simp only [BitVec.getLsbD_or, BitVec.getLsbD_and, BitVec.getLsbD_not, hi, decide_true, Bool.true_and]
      cases a.getLsbD i <;> cases b.getLsbD i <;> rfl
    · apply BitVec.eq_of_getLsbD_eq
      intro i hi
      simp only [BitVec.getLsbD_not, BitVec.getLsbD_and, BitVec.getLsbD_zero, hi, decide_true, Bool.true_and]
      cases a.getLsbD i <;> cases b.getLsbD i <;> rfl
  have e2 : (a &&& b) + (b &&& ~~~a) = b := by
    rw [BitVec.add_eq_or_of_and_eq_zero]
    · apply BitVec.eq_of_getLsbD_eq
      intro i hi
      simp only [BitVec.getLsbD_or, BitVec.getLsbD_and, BitVec.getLsbD_not, hi, decide_true, Bool.true_and]
      cases a.getLsbD i <;> cases b.getLsbD i <;> rfl
    · apply BitVec.eq_of_getLsbD_eq
      intro i hi
      simp only [BitVec.getLsbD_not, BitVec.getLsbD_and, BitVec.getLsbD_zero, hi, decide_true, Bool.true_and]
      cases a.getLsbD i <;> cases b.getLsbD i <;> rfl
  rw [← e1, BitVec.add_comm (a &&& b), BitVec.add_assoc, BitVec.add_comm (b &&& ~~~a), e2]
theorem or_sub_and (a b : BitVec 32) : (a ||| b) - (a &&& b) = a ^^^ b := by
  have h : (a ||| b) = (a ^^^ b) + (a &&& b) := by
    rw [BitVec.add_eq_or_of_and_eq_zero]
    · apply BitVec.eq_of_getLsbD_eq
      intro i hi
      simp only [BitVec.getLsbD_or, BitVec.getLsbD_xor, BitVec.getLsbD_and]
      cases a.getLsbD i <;> cases b.getLsbD i <;> rfl
    · apply BitVec.eq_of_getLsbD_eq
      intro i hi
      simp only [BitVec.getLsbD_xor, BitVec.getLsbD_and, BitVec.getLsbD_zero]
      cases a.getLsbD i <;> cases b.getLsbD i <;> rfl
  rw [h, BitVec.add_sub_cancel]
theorem xor_back (a b : BitVec 32) : (a ^^^ b) ^^^ b = a := by rw [BitVec.xor_assoc, BitVec.xor_self, BitVec.xor_zero]
theorem and_and_xor (a b : BitVec 32) : (a &&& b) &&& (a ^^^ b) = 0#32 := by
  apply BitVec.eq_of_getLsbD_eq
  intro i hi
  simp only [BitVec.getLsbD_xor, BitVec.getLsbD_and, BitVec.getLsbD_zero]
  cases a.getLsbD i <;> cases b.getLsbD i <;> rfl
end Alu
end Go.Proofs.YtadikbmbadldpaaGreatDoor
