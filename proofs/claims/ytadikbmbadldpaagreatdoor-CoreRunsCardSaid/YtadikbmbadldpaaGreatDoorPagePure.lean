
/- Numbers in pages: plain laws. -/
import Derived.Test.YtadikbmbadldpaaGreatDoorPageBase
import Derived.Laws.BitsAllLaws
namespace Go.Proofs.YtadikbmbadldpaaGreatDoor
set_option linter.unusedVariables false
namespace Pg
/-- The byte at an address. -/
def byte (P : Nat → PageV) (ad : Nat) : Nat := ((P (ad / 64)).data (ad % 64)).toNat
theorem byte_lt (P : Nat → PageV) (ad : Nat) : byte P ad < 256 := ((P (ad / 64)).data (ad % 64)).isLt
/-- The number that k bytes from an address on write. -/
def num (P : Nat → PageV) (ad : Nat) : Nat → Nat
  | 0 => 0
  | k + 1 => num P ad k * 256 + byte P (ad + k)
theorem num_lt (P : Nat → PageV) (ad k : Nat) : num P ad k < 256 ^ k := by
  induction k with
  | zero => simp [num]
  | succ k ih =>
    have := byte_lt P (ad + k)
    rw [num, Nat.pow_succ]
    omega
theorem num_lt4 (P : Nat → PageV) (ad k : Nat) (h : k < 4) : num P ad k * 256 + byte P (ad + k) < 4294967296 := by
  have h1 := num_lt P ad (k + 1)
  have h2 : 256 ^ (k + 1) ≤ 256 ^ 4 := Nat.pow_le_pow_right (by decide) (by omega)
  rw [num] at h1
  have h3 : (256 : Nat) ^ 4 = 4294967296 := by decide
  omega
theorem or_nat (x c : Nat) (hc : c < 256) : (x * 256) ||| c = x * 256 + c := by
  have h := Nat.two_pow_add_eq_or_of_lt (i := 8) (b := c) hc x
  have e : (2 : Nat) ^ 8 * x = x * 256 := Nat.mul_comm _ _
  rw [e] at h
  exact h.symm
theorem or_byte (x c : Nat) (hx : x * 256 + c < 4294967296) (hc : c < 256) : bits .or .u32 ((x : Int) * 256) (c : Int) = ((x * 256 + c : Nat) : Int) := by
  have hx1 : x * 256 < 4294967296 := Nat.lt_of_le_of_lt (Nat.le_add_right _ _) hx
  have hc1 : c < 4294967296 := Nat.lt_of_le_of_lt (Nat.le_add_left _ _) hx
  have e := u32_or_nat (x * 256) c hx1 hc1
  rw [or_nat x c hc] at e
  rw [← e]
  rfl
/-- Bytes put from an address on: page q, from place r on, the numbers told by g. -/
def put (P : Nat → PageV) (q r k : Nat) (g : Nat → BitVec 8) : Nat → PageV :=
  upd P q { P q with data := fun x => if r ≤ x ∧ x < r + k then g (x - r) else (P q).data x }
/-- The document's Store, on the pages. -/
def store (P : Nat → PageV) (ad k v : Nat) : Nat → PageV :=
  upd P (ad / 64) { P (ad / 64) with dirty := true, data := fun x => if ad % 64 ≤ x ∧ x < ad % 64 + k then BitVec.ofNat 8 (v / 256 ^ (ad % 64 + k - 1 - x)) else (P (ad / 64)).data x }
end Pg
end Go.Proofs.YtadikbmbadldpaaGreatDoor
