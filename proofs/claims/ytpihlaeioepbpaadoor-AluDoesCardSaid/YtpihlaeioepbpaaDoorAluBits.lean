/- Counting bits, turning words: plain mathematics. -/
import Derived.Test.YtpihlaeioepbpaaDoorAluPure
import Derived.Lib.BitFns
namespace Go.Proofs.YtpihlaeioepbpaaDoor
namespace Alu
open Go Go.RowKit

/-- How many of the first k are true. -/
def cnt (f : Nat → Bool) : Nat → Nat
  | 0 => 0
  | k + 1 => cnt f k + (if f k then 1 else 0)
theorem cnt_congr (f g : Nat → Bool) (k : Nat) (h : ∀ i, i < k → f i = g i) : cnt f k = cnt g k := by
  induction k with
  | zero => rfl
  | succ k ih => rw [cnt, cnt, ih (fun i hi => h i (by omega)), h k (by omega)]
theorem cnt_add (f : Nat → Bool) (a b : Nat) : cnt f (a + b) = cnt f a + cnt (fun i => f (a + i)) b := by
  induction b with
  | zero => rfl
  | succ b ih => rw [← Nat.add_assoc, cnt, ih, cnt, Nat.add_assoc]
def ones (x : R) : Nat := cnt (fun i => x.getLsbD i) 32
theorem cnt32 (f : Nat → Bool) : cnt f 32 = cnt (fun i => f (8 * 3 + i)) 8 + cnt (fun i => f (8 * 2 + i)) 8 + cnt (fun i => f (8 * 1 + i)) 8 + cnt (fun i => f (8 * 0 + i)) 8 := by
  rw [show 32 = 8 + (8 + (8 + 8)) from rfl, cnt_add, cnt_add, cnt_add]
  simp only [Nat.mul_zero, Nat.zero_add, Nat.mul_one, Nat.reduceMul]
  have a1 : ∀ i, 8 + (8 + i) = 16 + i := fun i => by omega
  have a2 : ∀ i, 8 + (16 + i) = 24 + i := fun i => by omega
  simp only [a1, a2]
  have e : cnt (fun i => f i) 8 = cnt f 8 := rfl
  omega
theorem cnt_turn (f : Nat → Bool) (m : Nat) (hm : m ≤ 32) : cnt (fun i => if i < m then f (32 - m + i) else f (i - m)) 32 = cnt f 32 := by
  have h : 32 = m + (32 - m) := by omega
  have e0 := cnt_add (fun i => if i < m then f (32 - m + i) else f (i - m)) m (32 - m)
  rw [← h] at e0
  have e1 : cnt (fun i => if i < m then f (32 - m + i) else f (i - m)) m = cnt (fun i => f (32 - m + i)) m :=
    cnt_congr _ _ _ fun i hi => by simp only [if_pos hi]
  have e2 : cnt (fun i => if m + i < m then f (32 - m + (m + i)) else f (m + i - m)) (32 - m) = cnt f (32 - m) :=
    cnt_congr _ _ _ fun i hi => by simp only [if_neg (show ¬ m + i < m by omega)]; congr 1; omega
  have e3 := cnt_add f (32 - m) m
  rw [show 32 - m + m = 32 by omega] at e3
  omega
theorem byte_cnt : ∀ c : Fin 256, Lib.onesCount c.val = cnt (fun i => c.val.testBit i) 8 := by decide +kernel
theorem ones_eq (x : R) : Lib.onesCount ((x.toNat : Int) / 16777216).toNat + Lib.onesCount ((x.toNat : Int) / 65536 % 256).toNat + Lib.onesCount ((x.toNat : Int) / 256 % 256).toNat + Lib.onesCount ((x.toNat : Int) % 256).toNat = ones x := by
  have hx := x.isLt
  have piece : ∀ j, j < 4 → cnt (fun i => x.getLsbD (8 * j + i)) 8 = Lib.onesCount (x.toNat / 2 ^ (8 * j) % 256) := fun j hj => by
    have b := byte_cnt ⟨x.toNat / 2 ^ (8 * j) % 256, Nat.mod_lt _ (by omega)⟩
    simp only at b
    rw [b]
    refine cnt_congr _ _ _ fun i hi => ?_
    rw [BitVec.getLsbD, show (256 : Nat) = 2 ^ 8 from rfl, Nat.testBit_mod_two_pow, Nat.testBit_div_two_pow]
    simp [hi, Nat.add_comm]
  have e0 : ((x.toNat : Int) % 256).toNat = x.toNat / 2 ^ (8 * 0) % 256 := by simp only [Nat.mul_zero, Nat.pow_zero, Nat.div_one]; omega
  have e1 : ((x.toNat : Int) / 256 % 256).toNat = x.toNat / 2 ^ (8 * 1) % 256 := by simp only [Nat.mul_one, Nat.reducePow]; omega
  have e2 : ((x.toNat : Int) / 65536 % 256).toNat = x.toNat / 2 ^ (8 * 2) % 256 := by simp only [Nat.reduceMul, Nat.reducePow]; omega
  have e3 : ((x.toNat : Int) / 16777216).toNat = x.toNat / 2 ^ (8 * 3) % 256 := by simp only [Nat.reduceMul, Nat.reducePow]; omega
  rw [e0, e1, e2, e3, ← piece 0 (by omega), ← piece 1 (by omega), ← piece 2 (by omega), ← piece 3 (by omega)]
  exact (cnt32 fun i => x.getLsbD i).symm
theorem cnt_split (f : Nat → Bool) (a b : Nat) : cnt (fun i => f (a + i)) b + cnt f a = cnt f (a + b) := by rw [cnt_add]; omega
/-- A turned word has as many bits. -/
theorem ones_rotate (x : R) (n : Nat) : ones (x.rotateLeft n) = ones x := by
  have hn : n % 32 < 32 := Nat.mod_lt _ (by omega)
  unfold ones
  have key : ∀ i, i < 32 → (x.rotateLeft n).getLsbD i = if i < n % 32 then x.getLsbD (32 - n % 32 + i) else x.getLsbD (i - n % 32) := fun i hi => by
    rw [BitVec.getLsbD_rotateLeft]
    simp only [hi, decide_true, Bool.true_and]
    by_cases h : i < n % 32 <;> simp [h]
  rw [cnt_congr _ _ _ key]
  exact cnt_turn (fun i => x.getLsbD i) (n % 32) (by omega)
theorem andi31 (n : Int) (h0 : -9223372036854775808 ≤ n) (h1 : n ≤ 9223372036854775807) : bits .and .i64 n 31 = n % 32 := by
  have e : bits .and .i64 n 31 = IntKind.i64.wrap ((BitVec.ofInt 64 n &&& BitVec.ofInt 64 31).toNat : Int) := rfl
  have e2 : (BitVec.ofInt 64 n &&& BitVec.ofInt 64 31).toNat = (n % 32).toNat := by
    rw [BitVec.toNat_and, BitVec.toNat_ofInt, show (BitVec.ofInt 64 31).toNat = 2 ^ 5 - 1 from rfl, Nat.and_two_pow_sub_one_eq_mod]
    omega
  rw [e, e2]
  have : ∀ z : Int, 0 ≤ z → z < 32 → IntKind.i64.wrap z = z := fun z a b => by
    have hz : z % 18446744073709551616 = z := by omega
    have hd : decide (z ≥ 9223372036854775808) = false := decide_eq_false (by omega)
    simp only [IntKind.wrap, IntKind.bits, IntKind.signed, Bool.true_and, Int.reducePow, Nat.reduceSub, hz, hd]
    simp
  rw [this] <;> omega
/-- The walk's spelling of a turn. -/
theorem rot_int (x : R) (k : Nat) (h : k < 32) : bits .or .u32 ((x.toNat : Int) * 2 ^ k % 4294967296) ((x.toNat : Int) / 2 ^ (32 - k)) = ((x.rotateLeft k).toNat : Int) := by
  rw [shl_int, shr_int, or_int]
  congr 2
  apply BitVec.eq_of_getLsbD_eq
  intro i hi
  rw [BitVec.getLsbD_or, BitVec.getLsbD_shiftLeft, BitVec.getLsbD_ushiftRight, BitVec.getLsbD_rotateLeft, Nat.mod_eq_of_lt h]
  by_cases hik : i < k
  · simp [hik]
  · have : x.getLsbD (32 - k + i) = false := BitVec.getLsbD_of_ge _ _ (by omega)
    simp [hik, hi, this]
/-- The place of the highest bit. -/
theorem bitLen_top (x : Nat) (h0 : x ≠ 0) (h : x < 4294967296) : x / 2 ^ (Lib.bitLen x - 1) = 1 ∧ 1 ≤ Lib.bitLen x := by
  induction x using Nat.strongRecOn with
  | _ x ih =>
    have e := Lib.bitLen_half x h0 (by omega)
    by_cases h2 : x / 2 = 0
    · have : x = 1 := by omega
      subst this
      exact ⟨by decide, by decide⟩
    · obtain ⟨i1, i2⟩ := ih (x / 2) (by omega) h2 (by omega)
      rw [e]
      refine ⟨?_, by omega⟩
      rw [show 1 + Lib.bitLen (x / 2) - 1 = (Lib.bitLen (x / 2) - 1) + 1 by omega, Nat.pow_succ, Nat.mul_comm, ← Nat.div_div_eq_div_mul]
      exact i1
theorem rotate_mod (x : R) (n : Nat) : x.rotateLeft (n % 32) = x.rotateLeft n := by rw [BitVec.rotateLeft_mod_eq_rotateLeft]
theorem rotate_back (x : R) (a b : Nat) (h : (a + b) % 32 = 0) : (x.rotateLeft a).rotateLeft b = x := by
  apply BitVec.eq_of_getLsbD_eq
  intro i hi
  rw [BitVec.getLsbD_rotateLeft, BitVec.getLsbD_rotateLeft, BitVec.getLsbD_rotateLeft]
  have ha : a % 32 < 32 := Nat.mod_lt _ (by omega)
  have hb : b % 32 < 32 := Nat.mod_lt _ (by omega)
  have hab : (a % 32 + b % 32) % 32 = 0 := by omega
  generalize a % 32 = p at *
  generalize b % 32 = q at *
  have : p + q = 0 ∨ p + q = 32 := by omega
  rcases this with h0 | h0
  · have : p = 0 := by omega
    have : q = 0 := by omega
    subst p; subst q
    simp [hi]
  · by_cases c1 : i < q
    · simp only [c1, decide_true, cond_true]
      have : ¬ (32 - q + i < p) := by omega
      simp only [this, decide_false, cond_false]
      rw [show 32 - q + i - p = i by omega]
      simp; omega
    · simp only [c1, decide_false, cond_false]
      have : i - q < p := by omega
      simp only [this, decide_true, cond_true]
      rw [show 32 - p + (i - q) = i by omega]
      simp [hi]
end Alu
end Go.Proofs.YtpihlaeioepbpaaDoor
