/- What is placed is found, nothing else is touched: no program in sight. -/
import Derived.Test.YtpihlaeioepbpaaDoorAluField
namespace Go.Proofs.YtpihlaeioepbpaaDoor
namespace Alu
open Go

theorem ones_bit (n i : Nat) (hi : i < 32) : (onesN n).getLsbD i = decide (i < n) := by
  unfold onesN
  rw [BitVec.getLsbD_ofNat, Nat.testBit_two_pow_sub_one]
  simp [hi]
theorem field_bit (x : R) (lo n i : Nat) (hi : i < 32) : (fieldOf x lo n).getLsbD i = (x.getLsbD (lo + i) && decide (i < n)) := by
  unfold fieldOf
  rw [BitVec.getLsbD_and, BitVec.getLsbD_ushiftRight, ones_bit n i hi]
theorem place_bit (x : R) (lo n : Nat) (v : R) (i : Nat) (hi : i < 32) : (placeOf x lo n v).getLsbD i = ((x.getLsbD i && !(decide (lo ≤ i) && decide (i - lo < n))) || (decide (lo ≤ i) && v.getLsbD (i - lo))) := by
  unfold placeOf
  simp only [BitVec.getLsbD_or, BitVec.getLsbD_and, BitVec.getLsbD_not, BitVec.getLsbD_shiftLeft, hi, decide_true, Bool.true_and]
  rw [ones_bit n (i - lo) (by omega)]
  by_cases h : i < lo
  · simp [h, show ¬ lo ≤ i by omega]
  · simp [h, show lo ≤ i by omega]
theorem field_le (x : R) (lo n : Nat) : (fieldOf x lo n).toNat ≤ (onesN n).toNat := by
  unfold fieldOf
  rw [BitVec.toNat_and]
  exact Nat.and_le_right
theorem place_field (x : R) (lo n : Nat) : placeOf x lo n (fieldOf x lo n) = x := by
  apply BitVec.eq_of_getLsbD_eq
  intro i hi
  rw [place_bit _ _ _ _ _ hi, field_bit _ _ _ _ (by omega)]
  by_cases h : lo ≤ i
  · have e : lo + (i - lo) = i := by omega
    simp only [h, e, decide_true, Bool.true_and]
    cases x.getLsbD i <;> cases decide (i - lo < n) <;> rfl
  · simp [h]
theorem place_twice (x : R) (lo n : Nat) : placeOf (placeOf x lo n 0#32) lo n (fieldOf x lo n) = x := by
  apply BitVec.eq_of_getLsbD_eq
  intro i hi
  rw [place_bit _ _ _ _ _ hi, field_bit _ _ _ _ (by omega), place_bit _ _ _ _ _ hi]
  by_cases h : lo ≤ i
  · have e : lo + (i - lo) = i := by omega
    simp only [h, e, decide_true, Bool.true_and, BitVec.getLsbD_zero, Bool.or_false]
    cases x.getLsbD i <;> cases decide (i - lo < n) <;> rfl
  · simp [h]
theorem field_cleared (x : R) (lo n : Nat) (h : n + lo ≤ 32) : fieldOf (placeOf x lo n 0#32) lo n = 0#32 := by
  apply BitVec.eq_of_getLsbD_eq
  intro i hi
  rw [field_bit _ _ _ _ hi]
  by_cases hn : i < n
  · rw [place_bit _ _ _ _ _ (by omega)]
    simp [hn]
  · simp [hn]
theorem or_field (x : R) (lo n : Nat) (h : n + lo ≤ 32) : placeOf x lo n 0#32 ||| (fieldOf x lo n <<< lo) = x := by
  apply BitVec.eq_of_getLsbD_eq
  intro i hi
  rw [BitVec.getLsbD_or, BitVec.getLsbD_shiftLeft, place_bit _ _ _ _ _ hi, field_bit _ _ _ _ (by omega)]
  by_cases h : lo ≤ i
  · have e : lo + (i - lo) = i := by omega
    simp only [h, e, hi, show ¬ i < lo by omega, decide_true, decide_false, Bool.true_and, BitVec.getLsbD_zero, Bool.or_false, Bool.not_false]
    cases x.getLsbD i <;> cases decide (i - lo < n) <;> rfl
  · simp [h, hi, show i < lo by omega]
theorem and_field (x : R) (lo n : Nat) (h : n + lo ≤ 32) : placeOf x lo n 0#32 &&& (fieldOf x lo n <<< lo) = 0#32 := by
  apply BitVec.eq_of_getLsbD_eq
  intro i hi
  rw [BitVec.getLsbD_and, BitVec.getLsbD_shiftLeft, place_bit _ _ _ _ _ hi, field_bit _ _ _ _ (by omega)]
  by_cases h : lo ≤ i
  · have e : lo + (i - lo) = i := by omega
    simp only [h, e, hi, show ¬ i < lo by omega, decide_true, decide_false, Bool.true_and, BitVec.getLsbD_zero, Bool.or_false, Bool.not_false]
    cases x.getLsbD i <;> cases decide (i - lo < n) <;> rfl
  · simp [hi, show i < lo by omega]
theorem sext_field (f : R) (n : Nat) (h1 : 1 ≤ n) (h2 : n ≤ 32) (hf : ∀ i, n ≤ i → f.getLsbD i = false) : fieldOf (sextOf f n) 0 n = f := by
  apply BitVec.eq_of_getLsbD_eq
  intro i hi
  rw [field_bit _ _ _ _ hi]
  unfold sextOf
  rw [BitVec.getLsbD_sshiftRight]
  by_cases hn : i < n
  · rw [if_pos (by omega), BitVec.getLsbD_shiftLeft]
    have e : 32 - n + (0 + i) - (32 - n) = i := by omega
    simp [hn, hi, show 32 - n + i < 32 by omega, show ¬ 32 - n + i < 32 - n by omega]
  · rw [hf i (by omega)]; simp [hn]
theorem field_high (x : R) (lo n i : Nat) (hi : n ≤ i) : (fieldOf x lo n).getLsbD i = false := by
  by_cases h : i < 32
  · rw [field_bit _ _ _ _ h]; simp; intro _; omega
  · exact BitVec.getLsbD_of_ge _ _ (by omega)
theorem sext_sign (f : R) (n : Nat) (h1 : 1 ≤ n) (h2 : n ≤ 32) : decide ((sextOf f n).toInt < 0) = decide ((fieldOf f (n - 1) 1).toNat = 1) := by
  have e1 : decide ((sextOf f n).toInt < 0) = (sextOf f n).msb := by rw [BitVec.msb_eq_toInt]
  have e2 : (sextOf f n).msb = f.getLsbD (n - 1) := by
    unfold sextOf
    rw [BitVec.msb_sshiftRight, BitVec.msb_eq_getLsbD_last, BitVec.getLsbD_shiftLeft]
    have e : 32 - 1 - (32 - n) = n - 1 := by omega
    simp [show ¬ 32 - 1 < 32 - n by omega]
    rw [show 31 - (32 - n) = n - 1 by omega]
  rw [e1, e2]
  have hb : (fieldOf f (n - 1) 1) = BitVec.ofNat 32 (f.getLsbD (n - 1)).toNat := by
    apply BitVec.eq_of_getLsbD_eq
    intro i hi
    rw [field_bit _ _ _ _ hi, BitVec.getLsbD_ofNat]
    by_cases h0 : i = 0
    · subst h0; simp; cases f.getLsbD (n - 1) <;> rfl
    · have : ¬ i < 1 := by omega
      simp only [this, decide_false, Bool.and_false]
      cases f.getLsbD (n - 1)
      · simp
      · simp only [Bool.toNat_true]
        rw [Bool.eq_false_iff.2 (fun h => h0 (Nat.testBit_one_eq_true_iff_self_eq_zero.1 h))]
        simp
  rw [hb]
  cases f.getLsbD (n - 1) <;> rfl
end Alu
end Go.Proofs.YtpihlaeioepbpaaDoor
