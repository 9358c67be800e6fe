
/- The arithmetic of words as plain mathematics, and the machine's spelling of it. -/
import Derived.WalkKit
import Derived.Laws.BitsAllLaws
namespace Go.Proofs.YtadikbmbadldpaaGreatDoor
namespace Alu
open Go Go.RowKit

abbrev R := BitVec 32
/-- What Do answers: the word, and the error's code (0: none). -/
def do_ (op : Int) (b c : R) : R × Nat :=
  if op = 1 then (b + c, 0) else if op = 2 then (b - c, 0) else if op = 3 then (b &&& c, 0) else if op = 4 then (b ||| c, 0) else if op = 5 then (b ^^^ c, 0)
  else if op = 6 then (b <<< (c.toNat % 32), 0) else if op = 7 then (b >>> (c.toNat % 32), 0) else if op = 8 then (b.sshiftRight (c.toNat % 32), 0) else if op = 9 then (b * c, 0)
  else if op = 10 then (if c = 0#32 then (0#32, 20) else (b / c, 0)) else if op = 11 then (if c = 0#32 then (0#32, 20) else (BitVec.ofInt 32 (b.toInt.tdiv c.toInt), 0))
  else if op = 12 then (if c = 0#32 then (0#32, 20) else (b % c, 0)) else if op = 13 then (if c = 0#32 then (0#32, 20) else (BitVec.ofInt 32 (b.toInt.tmod c.toInt), 0))
  else if op = 14 then (if b.toNat < c.toNat then 1#32 else 0#32, 0) else if op = 15 then (if b.toInt < c.toInt then 1#32 else 0#32, 0) else (0#32, 7)
/-- What Test answers. -/
def test (op : Int) (b c : R) : Bool × Nat :=
  if op = 48 then (b.toNat == c.toNat, 0) else if op = 49 then (b.toNat != c.toNat, 0) else if op = 50 then (decide (b.toNat < c.toNat), 0) else if op = 51 then (decide (b.toInt < c.toInt), 0)
  else if op = 52 then (decide (c.toNat ≤ b.toNat), 0) else if op = 53 then (decide (c.toInt ≤ b.toInt), 0) else (false, 7)

theorem lt32 (x : R) : (x.toNat : Int) < 4294967296 := by have := x.isLt; omega
theorem ge0 (x : R) : 0 ≤ (x.toNat : Int) := by omega
theorem add_int (b c : R) : ((b.toNat : Int) + c.toNat) % 4294967296 = ((b + c).toNat : Int) := by rw [BitVec.toNat_add]; omega
theorem sub_int (b c : R) : ((b.toNat : Int) - c.toNat) % 4294967296 = ((b - c).toNat : Int) := by rw [BitVec.toNat_sub]; have := b.isLt; have := c.isLt; omega
theorem mul_int (b c : R) : ((b.toNat : Int) * c.toNat) % 4294967296 = ((b * c).toNat : Int) := by
  rw [BitVec.toNat_mul]; rw [← Int.natCast_mul]; omega
theorem xor_int (a b : R) : bits .xor .u32 (a.toNat : Int) (b.toNat : Int) = ((a ^^^ b).toNat : Int) := by rw [u32_xor_nat _ _ a.isLt b.isLt, BitVec.toNat_xor]
theorem and_int (a b : R) : bits .and .u32 (a.toNat : Int) (b.toNat : Int) = ((a &&& b).toNat : Int) := by rw [u32_and_nat _ _ a.isLt b.isLt, BitVec.toNat_and]
theorem or_int (a b : R) : bits .or .u32 (a.toNat : Int) (b.toNat : Int) = ((a ||| b).toNat : Int) := by rw [u32_or_nat _ _ a.isLt b.isLt, BitVec.toNat_or]
theorem shl_int (b : R) (n : Nat) : ((b.toNat : Int) * 2 ^ n) % 4294967296 = ((b <<< n).toNat : Int) := by
  rw [BitVec.toNat_shiftLeft, Nat.shiftLeft_eq]
  have : ((2 : Int) ^ n) = ((2 ^ n : Nat) : Int) := by simp
  rw [this, ← Int.natCast_mul]; omega
theorem shr_int (b : R) (n : Nat) : (b.toNat : Int) / 2 ^ n = ((b >>> n).toNat : Int) := by
  rw [BitVec.toNat_ushiftRight, Nat.shiftRight_eq_div_pow]; simp
theorem toInt_lo (x : R) : -2147483648 ≤ x.toInt := by have := BitVec.le_toInt x; simpa using this
theorem toInt_hi (x : R) : x.toInt < 2147483648 := by have := BitVec.toInt_lt (x := x); simpa using this
theorem wrap_int (x : R) : wrap32 (x.toNat : Int) = x.toInt := by
  rw [BitVec.toInt_eq_toNat_cond]; unfold wrap32; have := x.isLt; split <;> omega
theorem toNat_ofInt (z : Int) : z % 4294967296 = ((BitVec.ofInt 32 z).toNat : Int) := by
  rw [BitVec.toNat_ofInt]; omega
theorem sar_int (b : R) (n : Nat) : (wrap32 (b.toNat : Int) / 2 ^ n) % 4294967296 = ((b.sshiftRight n).toNat : Int) := by
  rw [wrap_int, toNat_ofInt]
  congr 2
  apply BitVec.eq_of_toInt_eq
  rw [BitVec.toInt_sshiftRight, BitVec.toInt_ofInt, Int.shiftRight_eq_div_pow]
  have h1 := toInt_lo b
  have h2 := toInt_hi b
  have e : ((2 : Int) ^ n) = ((2 ^ n : Nat) : Int) := by simp
  rw [e]
  have hp : (1 : Int) ≤ ((2 ^ n : Nat) : Int) := by have := Nat.one_le_two_pow (n := n); omega
  generalize ((2 ^ n : Nat) : Int) = p at hp
  have a1 : -2147483648 ≤ b.toInt / p := Int.le_ediv_of_mul_le (by omega) (by omega)
  have a2 : b.toInt / p < 2147483648 := Int.ediv_lt_of_lt_mul (by omega) (by omega)
  rw [Int.bmod_eq_of_le] <;> (simp only [Nat.reducePow]; omega)
theorem udiv_int (b c : R) : (b.toNat : Int) / c.toNat % 4294967296 = ((b / c).toNat : Int) := by
  rw [BitVec.toNat_udiv, ← Int.natCast_ediv]
  have h1 := Nat.div_le_self b.toNat c.toNat
  have h2 := b.isLt
  generalize b.toNat / c.toNat = z at *
  omega
theorem umod_int (b c : R) : (b.toNat : Int) % c.toNat = ((b % c).toNat : Int) := by rw [BitVec.toNat_umod]; simp
theorem zero_int (m : R) : ((m.toNat : Int) == 0) = decide (m = 0#32) := by
  by_cases h : m = 0#32
  · subst h; rfl
  · have : m.toNat ≠ 0 := fun e => h (BitVec.eq_of_toNat_eq e)
    simp [h]; omega
theorem toInt_ne (c : R) (h : c ≠ 0#32) : c.toInt ≠ 0 := fun e => h (BitVec.eq_of_toInt_eq (by rw [e]; rfl))
theorem pos_of_ne (c : R) (h : c ≠ 0#32) : 1 ≤ (c.toNat : Int) := by
  have : c.toNat ≠ 0 := fun e => h (BitVec.eq_of_toNat_eq e)
  omega
theorem ttdiv_range (x y : Int) (x1 : -2147483648 ≤ x) (x2 : x < 2147483648) (_h : ¬ y = 0) : -2147483648 ≤ x.tdiv y ∧ x.tdiv y ≤ 2147483648 := by
  have h1 : (x.tdiv y).natAbs ≤ x.natAbs := by rw [Int.natAbs_tdiv]; exact Nat.div_le_self _ _
  omega
theorem ttmod_range (x y : Int) (x1 : -2147483648 ≤ x) (x2 : x < 2147483648) (_h : ¬ y = 0) : -2147483648 ≤ x.tmod y ∧ x.tmod y ≤ 2147483648 := by
  have h1 : (x.tmod y).natAbs ≤ x.natAbs := by rw [Int.natAbs_tmod]; exact Nat.mod_le _ _
  omega
theorem wrap64_mod (z : Int) (h : -2147483648 ≤ z ∧ z ≤ 2147483648) : wrap64 z % 4294967296 = z % 4294967296 := by
  have : wrap64 z = z := by unfold wrap64; omega
  rw [this]
end Alu
end Go.Proofs.YtadikbmbadldpaaGreatDoor
