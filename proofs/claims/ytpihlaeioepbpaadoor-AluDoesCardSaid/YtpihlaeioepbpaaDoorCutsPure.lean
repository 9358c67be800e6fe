/- The bits of Sext, Field and Place: no program in sight. -/
import Derived.Test.YtpihlaeioepbpaaDoorFieldPure
namespace Go.Proofs.YtpihlaeioepbpaaDoor
namespace Alu
open Go
theorem sext_bit (x : R) (n i : Nat) (h1 : 1 ≤ n) (h2 : n ≤ 32) (hi : i < 32) : (sextOf x n).getLsbD i = if n ≤ i then x.getLsbD (n - 1) else x.getLsbD i := by
  unfold sextOf
  rw [BitVec.getLsbD_sshiftRight]
  by_cases h : n ≤ i
  · rw [if_pos h]
    have e1 : ¬ (32 ≤ i) := by omega
    by_cases e : n = 32
    · omega
    · have e2 : ¬ (32 - n + i < 32) := by omega
      simp only [e1, decide_false, Bool.not_false, Bool.true_and, e2, if_false]
      rw [BitVec.msb_eq_getLsbD_last, BitVec.getLsbD_shiftLeft]
      have e3 : ¬ (32 - 1 < 32 - n) := by omega
      have e4 : 32 - 1 - (32 - n) = n - 1 := by omega
      simp [e3, e4]
  · rw [if_neg h]
    have e1 : ¬ (32 ≤ i) := by omega
    have e2 : 32 - n + i < 32 := by omega
    simp only [e1, decide_false, Bool.not_false, Bool.true_and, e2, if_true]
    rw [BitVec.getLsbD_shiftLeft]
    have e3 : ¬ (32 - n + i < 32 - n) := by omega
    have e4 : 32 - n + i - (32 - n) = i := by omega
    simp [e3, e4]
    omega
/-- A word fits n bits just if it has none above. -/
theorem le_ones (v : R) (n : Nat) (hn : n ≤ 32) : v.toNat ≤ (onesN n).toNat ↔ ∀ i, n ≤ i → i < 32 → v.getLsbD i = false := by
  have e : (onesN n).toNat = 2 ^ n - 1 := by
    unfold onesN
    rw [BitVec.toNat_ofNat]
    have : 2 ^ n ≤ 2 ^ 32 := Nat.pow_le_pow_right (by omega) hn
    have h0 : 0 < 2 ^ n := Nat.pow_pos (by omega)
    exact Nat.mod_eq_of_lt (by omega)
  have h0 : 0 < 2 ^ n := Nat.pow_pos (by omega)
  rw [e]
  constructor
  · intro h i hi _
    rw [BitVec.getLsbD]
    exact Nat.testBit_lt_two_pow (Nat.lt_of_lt_of_le (by omega) (Nat.pow_le_pow_right (by omega) hi))
  · intro h
    have : v.toNat < 2 ^ n := by
      apply Nat.lt_pow_two_of_testBit
      intro i hi
      by_cases c : i < 32
      · exact h i hi c
      · exact BitVec.getLsbD_of_ge v i (by omega)
    omega
theorem place_row (x : R) (lo n : Nat) (v : R) (h3 : n + lo ≤ 32) (hv : ∀ i, n ≤ i → i < 32 → v.getLsbD i = false) (i : Nat) (hi : i < 32) :
    (if lo ≤ i ∧ i < lo + n then v.getLsbD (i - lo) else x.getLsbD i) = (placeOf x lo n v).getLsbD i := by
  rw [place_bit x lo n v i hi]
  by_cases h1 : lo ≤ i
  · by_cases h2 : i < lo + n
    · have h4 : i - lo < n := by omega
      simp [h1, h2, h4]
    · have h4 : ¬ (i - lo < n) := by omega
      have h5 := hv (i - lo) (by omega) (by omega)
      simp [h1, h2, h4, h5]
  · simp [h1]
theorem field_row (x : R) (lo n i : Nat) (hi : i < 32) : (if i < n then x.getLsbD (lo + i) else false) = (fieldOf x lo n).getLsbD i := by
  rw [field_bit x lo n i hi]
  by_cases h : i < n <;> simp [h]
end Alu
end Go.Proofs.YtpihlaeioepbpaaDoor
