/- The lowest set bit of a word: no program in sight. -/
import Derived.Test.YtndninajnkejnaaDoorCrcPure
namespace Go.Proofs.YtndninajnkejnaaDoor
namespace Crc
open Go

/-- t is the lowest set bit of x. -/
def Low (x : R) (t : Nat) : Prop := t < 32 ∧ x.getLsbD t = true ∧ ∀ i, i < t → x.getLsbD i = false
theorem low_of (x : R) (h : x ≠ 0#32) : ∃ t, Low x t := by
  have hex : ∃ t, t < 32 ∧ x.getLsbD t = true := by
    apply Classical.byContradiction
    intro hn
    apply h
    apply BitVec.eq_of_getLsbD_eq
    intro i hi
    simp only [BitVec.getLsbD_zero]
    cases hb : x.getLsbD i with
    | false => rfl
    | true => exact absurd ⟨i, hi, hb⟩ hn
  obtain ⟨t, ht, hb⟩ := hex
  have key : ∀ n : Nat, ∀ t, t ≤ n → t < 32 → x.getLsbD t = true → ∃ s, Low x s := by
    intro n
    induction n with
    | zero => intro t h0 h1 h2; exact ⟨t, h1, h2, fun i hi => by omega⟩
    | succ n ih =>
      intro t h0 h1 h2
      by_cases hl : ∃ s, s < t ∧ x.getLsbD s = true
      · obtain ⟨s, hs, hsb⟩ := hl
        exact ih s (by omega) (by omega) hsb
      · exact ⟨t, h1, h2, fun i hi => by
          cases hb : x.getLsbD i with
          | false => rfl
          | true => exact absurd ⟨i, hi, hb⟩ hl⟩
  exact key t t (Nat.le_refl _) ht hb
theorem bit1 (t i : Nat) (hi : i < 32) : (1#32 <<< t).getLsbD i = decide (i = t) := by
  rw [BitVec.getLsbD_shiftLeft]
  by_cases h : i < t
  · simp [h, hi]; omega
  · by_cases e : i = t
    · subst e; simp [hi]
    · have : (1#32).getLsbD (i - t) = false := by
        rw [show (1#32 : R) = BitVec.ofNat 32 1 from rfl, BitVec.getLsbD_ofNat]
        have : Nat.testBit 1 (i - t) = false := Bool.eq_false_iff.2 (fun g => by have := Nat.testBit_one_eq_true_iff_self_eq_zero.1 g; omega)
        simp [this]
      simp [this, h, e, hi]
theorem ones_low (t i : Nat) (hi : i < 32) : (BitVec.ofNat 32 (2 ^ t - 1)).getLsbD i = decide (i < t) := by
  rw [BitVec.getLsbD_ofNat, Nat.testBit_two_pow_sub_one]; simp [hi]
theorem sub_one_bits (x : R) (t : Nat) (h : Low x t) : x - 1#32 = (x &&& ~~~(1#32 <<< t)) ||| BitVec.ofNat 32 (2 ^ t - 1) := by
  obtain ⟨ht, hb, hl⟩ := h
  have e1 : x = (x &&& ~~~(1#32 <<< t)) + (1#32 <<< t) := by
    rw [BitVec.add_eq_or_of_and_eq_zero]
    · apply BitVec.eq_of_getLsbD_eq
      intro i hi
      rw [BitVec.getLsbD_or, BitVec.getLsbD_and, BitVec.getLsbD_not, bit1 t i hi]
      by_cases e : i = t
      · subst e; simp [hb, hi]
      · simp [e, hi]
    · apply BitVec.eq_of_getLsbD_eq
      intro i hi
      rw [BitVec.getLsbD_and, BitVec.getLsbD_and, BitVec.getLsbD_not, bit1 t i hi, BitVec.getLsbD_zero]
      cases decide (i = t) <;> simp
  have e2 : (1#32 <<< t) - 1#32 = BitVec.ofNat 32 (2 ^ t - 1) := by
    apply BitVec.eq_of_toNat_eq
    have h1 : 2 ^ t ≤ 2 ^ 31 := Nat.pow_le_pow_right (by omega) (by omega)
    have h2 : 1 ≤ 2 ^ t := Nat.one_le_two_pow
    rw [BitVec.toNat_sub, BitVec.toNat_shiftLeft, Nat.shiftLeft_eq]
    simp only [BitVec.toNat_ofNat]
    generalize 2 ^ t = p at *
    omega
  conv => lhs; rw [e1]
  rw [BitVec.sub_eq_add_neg, BitVec.add_assoc, ← BitVec.sub_eq_add_neg, e2, BitVec.add_eq_or_of_and_eq_zero]
  apply BitVec.eq_of_getLsbD_eq
  intro i hi
  rw [BitVec.getLsbD_and, BitVec.getLsbD_and, BitVec.getLsbD_not, bit1 t i hi, ones_low t i hi, BitVec.getLsbD_zero]
  by_cases e : i < t
  · simp [hl i e]
  · simp [e]
/-- The lowest set bit is struck. -/
theorem and_pred (x : R) (t : Nat) (h : Low x t) : x &&& (x - 1#32) = x ^^^ (1#32 <<< t) := by
  rw [sub_one_bits x t h]
  obtain ⟨ht, hb, hl⟩ := h
  apply BitVec.eq_of_getLsbD_eq
  intro i hi
  rw [BitVec.getLsbD_and, BitVec.getLsbD_or, BitVec.getLsbD_and, BitVec.getLsbD_not, BitVec.getLsbD_xor, bit1 t i hi, ones_low t i hi]
  by_cases e : i = t
  · subst e; simp [hb, hi]
  · by_cases g : i < t
    · simp [hl i g, e]
    · simp [e, g, hi]
theorem neg_not (x : R) : -x = ~~~(x - 1#32) := by
  apply BitVec.eq_of_toNat_eq
  rw [BitVec.toNat_neg, BitVec.toNat_not, BitVec.toNat_sub]
  have := x.isLt
  simp
  omega
theorem and_neg (x : R) (t : Nat) (h : Low x t) : x &&& -x = 1#32 <<< t := by
  rw [neg_not, sub_one_bits x t h]
  obtain ⟨ht, hb, hl⟩ := h
  apply BitVec.eq_of_getLsbD_eq
  intro i hi
  rw [BitVec.getLsbD_and, BitVec.getLsbD_not, BitVec.getLsbD_or, BitVec.getLsbD_and, BitVec.getLsbD_not, bit1 t i hi, ones_low t i hi]
  by_cases e : i = t
  · subst e; simp [hb, hi]
  · by_cases g : i < t
    · simp [hl i g, e]
    · simp [e, g, hi]
/-- The table's numbers. -/
def deB : List Int := [0, 1, 28, 2, 29, 14, 24, 3, 30, 22, 20, 15, 25, 17, 4, 8, 31, 27, 13, 23, 21, 19, 16, 7, 26, 12, 18, 6, 11, 5, 10, 9]
theorem deB_at : ∀ t : Fin 32, deB.getD (((1#32 <<< t.val).toNat * 125613361 % 4294967296) / 134217728) 0 = (t.val : Int) ∧ ((1#32 <<< t.val).toNat * 125613361 % 4294967296) / 134217728 < 32 := by decide +kernel
end Crc
end Go.Proofs.YtndninajnkejnaaDoor
