
/- The statements' readable, walked. -/
import Derived.Test.YtadikbmbadldpaaGreatDoorPageOut
import Derived.Test.YtadikbmbadldpaaGreatDoorPageKnown
namespace Go.Proofs.YtadikbmbadldpaaGreatDoor
open Go Go.RowKit
set_option linter.unusedVariables false

/-- The rights, with bit 0. -/
def orr (r : Int) : Int := bits .or .i64 r 1
theorem ofInt_wrap (z : BitVec 64) : BitVec.ofInt 64 (IntKind.i64.wrap (z.toNat : Int)) = z := by
  apply BitVec.eq_of_toNat_eq
  have hz := z.isLt
  rw [BitVec.toNat_ofInt]
  have h1 : (z.toNat : Int) % 18446744073709551616 = (z.toNat : Int) := by omega
  simp only [IntKind.wrap, IntKind.bits, IntKind.signed, Bool.true_and, Int.reducePow, Nat.reduceSub, h1]
  by_cases h : (z.toNat : Int) ≥ 9223372036854775808
  · simp only [h, decide_true, if_true]; omega
  · simp only [h, decide_false, Bool.false_eq_true, if_false]; omega
theorem rb_orr (r : Int) : rb (orr r) 0 = true := by
  have e : orr r = IntKind.i64.wrap ((BitVec.ofInt 64 r ||| BitVec.ofInt 64 1).toNat : Int) := rfl
  unfold rb
  rw [e, ofInt_wrap, BitVec.getLsbD_or]
  have : (BitVec.ofInt 64 1).getLsbD 0 = true := by decide
  rw [this, Bool.or_true]
/-- A page that may be read. -/
def readPg (p : PageV) : PageV := { p with rights := orr p.rights }
def readP (P : Nat → PageV) (k : Nat) : Nat → PageV := fun i => bif decide (i < k) then readPg (P i) else P i
theorem readP_lt {P : Nat → PageV} {k i : Nat} (h : i < k) : readP P k i = readPg (P i) := by simp [readP, h]
theorem readP_ge {P : Nat → PageV} {k i : Nat} (h : ¬ i < k) : readP P k i = P i := by simp [readP, h]
theorem readP_rb {P : Nat → PageV} {n i : Nat} (h : i < n) : rb (readP P n i).rights 0 = true := by rw [readP_lt h]; exact rb_orr _
namespace Pg
theorem num_two (P : Nat → PageV) (ad : Nat) : num P ad 4 = num P ad 2 * 65536 + num P (ad + 2) 2 := by
  simp only [num]
  simp only [Nat.add_assoc, Nat.add_zero, Nat.reduceAdd]
  omega
theorem num_one (P : Nat → PageV) (ad : Nat) : num P ad 1 = byte P ad := by simp [num]
end Pg
theorem andNot3 (ad : Nat) (h : ad < 4294967296) : bits .andNot .u32 (ad : Int) 3 = ((ad / 4 * 4 : Nat) : Int) := by
  have e := u32_andNot_nat ad 3 h (by decide)
  have hx : (BitVec.ofNat 32 ad &&& ~~~3#32) = (BitVec.ofNat 32 ad >>> 2) <<< 2 := by
    apply BitVec.eq_of_getLsbD_eq
    intro i hi
    have h3 : (~~~3#32).getLsbD i = decide (2 ≤ i) := by
      revert hi
      revert i
      decide
    rw [BitVec.getLsbD_and, h3, BitVec.getLsbD_shiftLeft, BitVec.getLsbD_ushiftRight]
    by_cases h2 : i < 2
    · have : ¬ 2 ≤ i := by omega
      simp [h2, this]
    · have h4 : 2 ≤ i := by omega
      simp only [hi, h2, h4, decide_true, decide_false, Bool.not_false, Bool.true_and, Bool.and_true]
      rw [show 2 + (i - 2) = i by omega]
  have h5 := congrArg BitVec.toNat hx
  rw [BitVec.toNat_and, BitVec.toNat_not, BitVec.toNat_shiftLeft, BitVec.toNat_ushiftRight, BitVec.toNat_ofNat, Nat.mod_eq_of_lt h] at h5
  have h6 : bits .andNot .u32 (ad : Int) 3 = ((ad &&& (2 ^ 32 - 1 - (3#32).toNat) : Nat) : Int) := e
  rw [h6, h5, Nat.shiftLeft_eq, Nat.shiftRight_eq_div_pow]
  omega
end Go.Proofs.YtadikbmbadldpaaGreatDoor
